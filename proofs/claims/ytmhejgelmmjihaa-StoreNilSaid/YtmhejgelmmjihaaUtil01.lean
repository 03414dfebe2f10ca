/- furlongref01.Bytes and Twin: contracts. -/
import Derived.Test.YtmhejgelmmjihaaOpen
import Derived.Test.YtmhejgelmmjihaaRows
namespace Go.Fur
open Go Go.RowKit Go.Proofs
set_option linter.unusedVariables false
set_option linter.unusedSimpArgs false

theorem string_rd {P : Program} {w : World} {src dst e : TypeId} {a : Option Addr} {c : Nat} {xs : List Int} (hs : P.underlying src = some (.slice e)) (he : P.underlying e = some (.int .u8)) (hd : P.underlying dst = some .string)
    (h : Rd w a (bv xs)) (n : Nat) (hn : xs.length = n) : (convert src dst (.slice a n c)).run P w = .ok (.string (strOfNums xs)) w := by
  by_cases h0 : xs = []
  · subst h0
    have hn0 : n = 0 := by simpa using hn.symm
    subst hn0
    cases a with
    | none => exact run_convert_bytes_nil w src e hs he 0 c dst hd
    | some ad =>
      have hl : (loadCells ad 0).run P w = .ok (([] : List Int).map (Value.int .u8)).toArray w := by
        simpa using run_loadCells_list (P := P) w ad [] (fun j v hj => by simp at hj)
      rw [run_convert_bytes_string w src dst e _ 0 c hs he hd, run_bytesToString w ad 0 c [] hl]
      rfl
  · obtain ⟨b, o, rfl, hr⟩ := h (fun hb => h0 (bv_inj (hb.trans bv_nil.symm)))
    refine run_convert_bytes_arg w src e hs he b o n c xs hn (fun i hi => ?_) dst hd
    refine hr i _ ?_
    rw [bv_get, List.getD_eq_getElem?_getD, List.getElem?_eq_getElem (by omega)]
    rfl
theorem strOfNums_inj {x y : List Int} (hx : Byt x) (hy : Byt y) (h : strOfNums x = strOfNums y) : x = y := by
  have h1 := congrArg (fun s : ByteArray => s.data.toList) h
  simp only [strOfNums_data] at h1
  apply List.ext_getElem?
  intro i
  have h2 := congrArg (fun l : List UInt8 => l[i]?) h1
  simp only [List.getElem?_map] at h2
  cases hxi : x[i]? with
  | none =>
    rw [hxi] at h2
    cases hyi : y[i]? with
    | none => rfl
    | some b => rw [hyi] at h2; cases h2
  | some a =>
    rw [hxi] at h2
    cases hyi : y[i]? with
    | none => rw [hyi] at h2; cases h2
    | some b =>
      rw [hyi] at h2
      have ha := hx a (List.mem_of_getElem? hxi)
      have hb := hy b (List.mem_of_getElem? hyi)
      have h3 : (UInt8.ofNat a.toNat).toNat = (UInt8.ofNat b.toNat).toNat := by
        simp only [Option.map_some, Option.some.injEq] at h2
        rw [h2]
      simp only [UInt8.toNat_ofNat'] at h3
      congr 1
      omega
theorem bytes_calls (w : World) (a b : Option Addr) (ca cb n m : Nat) (x y : List Int) (hn : x.length = n) (hm : y.length = m) (hx : Byt x) (hy : Byt y) (ra : Rd w a (bv x)) (rb : Rd w b (bv y)) :
    Calls Try.prog 18 #[.slice a n ca, .slice b m cb] w fun e w' => e = .returned (.bool (decide (x = y))) ∧ w = w' := by
  have h1 : ∀ c, (convert 24 9 (.slice a n c)).run Try.prog w = .ok (.string (strOfNums x)) w := fun c => string_rd Try.underlying24 Try.underlying5 Try.underlying9 ra n hn
  have h2 : ∀ c, (convert 24 9 (.slice b m c)).run Try.prog w = .ok (.string (strOfNums y)) w := fun c => string_rd Try.underlying24 Try.underlying5 Try.underlying9 rb m hm
  have h3 : (strOfNums x = strOfNums y) ↔ x = y := ⟨strOfNums_inj hx hy, fun h => by rw [h]⟩
  have H3 := Lib.hid h3
  clear h3 hx hy hn hm ra rb
  go_enter Try.func18, Try.ntmps18
  go_wp2
  go_ret
  refine ⟨?_, rfl⟩
  have h4 : ((strOfNums x).toList == (strOfNums y).toList) = decide (x = y) := by
    rw [Bool.eq_iff_iff]
    simp only [beq_iff_eq, decide_eq_true_eq, ByteArray.toList_eq]
    rw [← H3.out]
    constructor
    · intro h
      have h5 : (strOfNums x).data = (strOfNums y).data := by rw [← Array.toList_inj]; exact h
      exact ByteArray.ext h5
    · intro h
      rw [h]
  show Ending.returned (.bool _) = _
  rw [h4]
theorem src_rd {P : Program} {w : World} {a : Option Addr} {l : List Int} (h : Rd w a (bv l)) {n c : Nat} {tx e' : TypeId} (hk : P.underlying tx = some (.slice e')) (hl : l.length = n) : Src P 1 tx (.slice a n c) n (bv l) w :=
  h.src hk (by rw [bv_length, hl, Nat.mul_one]) (bv_one l)
theorem Own.empty (w : World) (e : TypeId) (size : Nat) : Own (w.alloc (.cells #[] e)) w.heap.size e size (.slice (some ⟨w.heap.size, 0, none⟩) 0 0) 0 [] := by
  have := Own.of_blk (base := w.heap.size) (size := size) (n := 0) (cap := 0) (Nat.le_refl _) (Blk.new w e []) (Nat.le_refl _) (Nat.zero_le _) (by simp)
  simpa using this
theorem twin_calls (w : World) (a : Option Addr) (c n : Nat) (l : List Int) (hn : l.length = n) (hl : n ≤ 140737488355328) (ra : Rd w a (bv l)) :
    Calls Try.prog 17 #[.slice a n c] w fun e w' => ∃ v, e = .returned v ∧ Own w' w.heap.size 5 1 v n (bv l) ∧ Fr [] w w' := by
  have hb : ∀ W : World, (Instr.buildSlice 24 0 #[]).run Try.prog W = .ok (.slice (some ⟨W.heap.size, 0, none⟩) 0 0) (W.alloc (.cells #[] 5)) := fun W => by kernel_rfl
  have hle : w.heap.size ≤ (w.alloc (.cells #[] 5)).heap.size := by simp
  have hmx : 0 + n ≤ maxLen := by simp only [maxLen]; omega
  have ra2 := src_rd (P := Try.prog) (n := n) (c := c) (ra.fr0 ((Fr.refl [] w).alloc (.cells #[] 5))) Try.underlying24 hn
  have HR := Lib.hid ra2
  clear ra2 hn
  go_enter Try.func17, Try.ntmps17
  obtain ⟨i0, hi0, hz0, hz1, hz2⟩ := info_parts (P := Try.prog) (e := 5) (z := .int .u8 0) (size := 1) (bytes := 1) (by kernel_rfl)
  go_wp2_with (refine wpList_app rfl _ _ 24 24 rfl w.heap.size 5 i0 _ 1 1 Try.underlying24 hi0 hz0 hz1 hz2 rfl Nat.one_pos _ 0 [] (by rfl) (Own.empty w 5 1) _ n (bv l) (by rfl) HR.out hmx (by omega) hle ?_; intro v1 w1 O1 F1 K1 _)
  refine bodyPost_ret (results_tmp rfl _ _ _) rfl ⟨v1, rfl, ?_, ?_⟩
  · simpa using O1
  · exact ((Fr.refl [] w).alloc _).trans F1 (fun k hk hlt => by simp at hk; omega)
end Go.Fur
