/- P3.1: what was laid is read, whatever stands behind it: for slices of at most 1048576 bytes together. -/
import Derived.Test.YtijcjllojhpioaaPStripBackx1
import Derived.Test.YtijcjllojhpioaaReadLay03
namespace Go.Proofs.Ytijcjllojhpioaa.Pure
open Go Go.RowKit Go.Fur Go.Proofs.Ytijcjllojhpioaa Go.Proofs.Ytijcjllojhpioaa.PStripBack Go.Proofs.YtijcjllojhpioaaW.PrintWords Go.Proofs.YtijcjllojhpioaaW.PrintLast Go.Proofs.YtijcjllojhpioaaW.PrintMore
set_option linter.unusedVariables false
theorem layInt_f (l : List Int) (y : Int) (h0 : -9223372036854775808 ≤ y) (h1 : y < 9223372036854775808) (hl : l.length + 9 ≤ 140737488355328) : strip_LayInt.f l y = some (l ++ layN (zig y)) := by
  obtain ⟨d1, d2⟩ := zig_code y h0 h1
  have hz := zig_lt y h0 h1
  unfold strip_LayInt.f
  by_cases h : y < 0
  · rw [if_pos h, d1 h, lay_f l _ hz hl, Option.bind_some]
  · rw [if_neg h, d2 h, lay_f l _ hz hl, Option.bind_some]
theorem StripBackUpto (a0 a1 : Int) (p rest : List Int) (h3 : (Lit.int .u64 a0).wf = true) (h4 : (Lit.int .i64 a1).wf = true) (_h5 : p.length ≤ maxLen) (_h6 : p.length * 1 ≤ 140737488351232) (h7 : ∀ x ∈ p, (Lit.int .u8 x).wf = true)
    (_h8 : rest.length ≤ maxLen) (_h9 : rest.length * 1 ≤ 140737488351232) (h10 : ∀ x ∈ rest, (Lit.int .u8 x).wf = true) (hs : p.length + rest.length ≤ 1048576) : ∃ k, furlonglaw03_StripBack.f k a0 a1 p rest = some true := by
  obtain ⟨x, rfl, hx⟩ := u64_of h3
  obtain ⟨y0, y1⟩ := i64_of h4
  have hz := zig_lt a1 y0 y1
  have hpb := byt_of h7
  have hrb := byt_of h10
  have k1 := kl_le x
  have k2 := kl_le (zig a1)
  have k3 := kl_le p.length
  have l1 := layN_length x
  have l2 := layN_length (zig a1)
  have l3 := layN_length p.length
  have e1 : IntKind.u64.wrap (p.length : Int) = ((p.length : Nat) : Int) := wrapU_id _ (by omega) (by omega)
  have b9 : Byt [9] := fun z hz => by rw [List.mem_singleton.1 hz]; omega
  have hlb : strip_LayBytes.f ([9] ++ layN x ++ layN (zig a1)) p = some ([9] ++ layN x ++ layN (zig a1) ++ layN p.length ++ p) := by
    unfold strip_LayBytes.f
    rw [e1, lay_f _ _ (by omega) (by simp; omega), Option.bind_some, if_pos (by simp; omega)]
  refine ⟨2, ?_⟩
  unfold furlonglaw03_StripBack.f furlonglaw03_awake.f
  rw [Option.bind_some, if_pos rfl, lay_f [9] x hx (by simp), Option.bind_some, layInt_f _ a1 y0 y1 (by simp; omega), Option.bind_some, hlb, Option.bind_some, if_pos (by simp; omega), Option.bind_some]
  generalize hY : [9] ++ layN x ++ layN (zig a1) ++ layN p.length ++ p ++ rest = Y
  have hYb : Byt Y := by
    rw [← hY]
    exact (((((b9.append (layN_byt x)).append (layN_byt _)).append (layN_byt _)).append hpb).append hrb)
  have hYl : Y.length ≤ 140737488355328 := by rw [← hY]; simp; omega
  have r1 : readN Y 1 = ((x : Int), ((1 + (layN x).length : Nat) : Int), 0) := by
    have := readN_lay [9] (layN (zig a1) ++ layN p.length ++ p ++ rest) x hx
    rw [← hY]
    simpa [List.append_assoc] using this
  have r2 : readN Y ((1 + (layN x).length : Nat) : Int) = ((zig a1 : Int), ((1 + (layN x).length + (layN (zig a1)).length : Nat) : Int), 0) := by
    have := readN_lay ([9] ++ layN x) (layN p.length ++ p ++ rest) (zig a1) hz
    rw [List.length_append, List.length_singleton] at this
    rw [← hY]
    simpa only [List.append_assoc] using this
  have r3 : readB Y ((1 + (layN x).length + (layN (zig a1)).length : Nat) : Int) = (p, ((1 + (layN x).length + (layN (zig a1)).length + (layN p.length).length + p.length : Nat) : Int), 0) := by
    have := readB_lay ([9] ++ layN x ++ layN (zig a1)) rest p (by omega)
    rw [List.length_append, List.length_append, List.length_singleton] at this
    rw [← hY]
    simpa only [List.append_assoc] using this
  have ri : strip_ReadInt.f Y ((1 + (layN x).length : Nat) : Int) = some (a1, ((1 + (layN x).length + (layN (zig a1)).length : Nat) : Int), 0) := by
    obtain ⟨z1, z2⟩ := zig_back a1 y0 y1
    unfold strip_ReadInt.f
    rw [read_f Y _ hYb hYl, r2, Option.bind_some]
    dsimp only
    by_cases h : Int.tmod (zig a1 : Int) 2 = 1
    · rw [if_pos h, z1 h]
    · rw [if_neg h, z2 h]
  have hn : (([9] ++ layN x ++ layN (zig a1) ++ layN p.length ++ p).length : Int) = ((1 + (layN x).length + (layN (zig a1)).length + (layN p.length).length + p.length : Nat) : Int) := by
    simp only [List.length_append, List.length_singleton]
  rw [hn, read_f Y 1 hYb hYl, r1, Option.bind_some]
  dsimp only
  rw [if_pos rfl, if_pos rfl, size_f x hx, Option.bind_some, wrap64_id _ (by omega) (by omega), l1, show (((1 + (1 + kl x) : Nat) : Int) != 1 + ((1 + kl x : Nat) : Int)) = false by simp, furlonglaw03_StripBack.j0, if_neg (by simp), ← l1, ri, Option.bind_some]
  dsimp only
  rw [if_pos rfl, if_pos rfl, decide_eq_false (by omega), furlonglaw03_StripBack.j1, if_neg (by simp), readBytes_f Y _ hYb hYl, r3, Option.bind_some]
  dsimp only
  rw [if_neg (by omega), if_pos rfl, if_pos rfl]
  unfold furlongref01_Bytes.f
  rw [str_self, Option.bind_some]
end Go.Proofs.Ytijcjllojhpioaa.Pure
