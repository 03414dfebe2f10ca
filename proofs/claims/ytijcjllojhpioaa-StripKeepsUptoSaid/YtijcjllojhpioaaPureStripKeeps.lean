/- R3: what is handed in stays, its spare room too; what is answered is new memory: for slices of at most 1048576 bytes together. -/
import Derived.Test.YtijcjllojhpioaaPStripKeepsx2
import Derived.Test.YtijcjllojhpioaaReadLay03
namespace Go.Proofs.Ytijcjllojhpioaa.Pure
open Go Go.RowKit Go.Fur Go.Proofs.Ytijcjllojhpioaa Go.Proofs.Ytijcjllojhpioaa.PStripKeeps Go.Proofs.YtijcjllojhpioaaW.PrintWords Go.Proofs.YtijcjllojhpioaaW.PrintLast Go.Proofs.YtijcjllojhpioaaW.PrintMore
set_option linter.unusedVariables false
theorem num_l1 (x s : Nat) (hs : s ≤ x) (hx : x < 18446744073709551616) (k : Nat) (hk : k ≤ 8) (d : Nat) : ∀ (m F : Nat), m + d = k →
    furlongref03_Num.l1 (F + 1 + d) (x : Int) (s : Int) (((191 + k : Nat) : Int) :: dg (x - s) k m) ((k : Int) - 1 - m) = some (((191 + k : Nat) : Int) :: dg (x - s) k k) := by
  induction d with
  | zero =>
    intro m F hm
    have : m = k := by omega
    subst this
    rw [furlongref03_Num.l1, if_neg (by omega)]
  | succ d ih =>
    intro m F hm
    have e1 : wrap64 (8 * ((k : Int) - 1 - m)) = ((8 * (k - 1 - m) : Nat) : Int) := by rw [wrap64_id _ (by omega) (by omega)]; omega
    have e2 : IntKind.u64.wrap ((x : Int) - (s : Int)) = ((x - s : Nat) : Int) := by rw [wrapU_id _ (by omega) (by omega)]; omega
    have e3 : shr .u64 ((x - s : Nat) : Int) ((8 * (k - 1 - m) : Nat) : Int) % 256 = (((x - s) / 256 ^ (k - 1 - m) % 256 : Nat) : Int) := by
      unfold shr
      rw [Int.toNat_natCast, Nat.min_eq_left (show 8 * (k - 1 - m) ≤ IntKind.u64.bits by show _ ≤ 64; omega)]
      have e : (256 : Nat) ^ (k - 1 - m) = 2 ^ (8 * (k - 1 - m)) := by rw [show (256 : Nat) = 2 ^ 8 from rfl, ← Nat.pow_mul]
      rw [e]
      simp
    rw [show F + 1 + (d + 1) = F + 1 + d + 1 by omega, furlongref03_Num.l1, if_pos (by omega), e1, if_pos (by omega), if_pos (by rw [List.length_cons, dg_length]; omega), e2, e3, wrap64_id _ (by omega) (by omega), List.cons_append, ← dg_succ]
    have := ih (m + 1) F (by omega)
    rw [show (k : Int) - 1 - ((m + 1 : Nat) : Int) = (k : Int) - 1 - (m : Int) - 1 by omega] at this
    exact this
theorem num_j1 (x k F : Nat) (hk1 : 1 ≤ k) (hk8 : k ≤ 8) (hx : x < 18446744073709551616) (hs : sh (k - 1) ≤ x) :
    furlongref03_Num.j1 (F + 10) (x : Int) ((sh (k - 1) : Nat) : Int) (k : Int) = some (((191 + k : Nat) : Int) :: dg (x - sh (k - 1)) k k) := by
  rw [furlongref03_Num.j1, wrap64_id (191 + (k : Int)) (by omega) (by omega), wrap64_id ((k : Int) - 1) (by omega) (by omega)]
  have := num_l1 x (sh (k - 1)) hs hx k hk8 k 0 (F + 8 - k) (by omega)
  rw [show F + 8 - k + 1 + k = F + 9 by omega, Int.natCast_zero, Int.sub_zero] at this
  rw [show (191 + (k : Int)) % 256 = ((191 + k : Nat) : Int) by omega]
  exact this
theorem num_l0 (x : Nat) (hx : x < 18446744073709551616) (d : Nat) : ∀ (k F : Nat), 1 ≤ k → k + d = 8 → sh (k - 1) ≤ x → (0 < kl x → k ≤ kl x) →
    furlongref03_Num.l0 (F + 11 + d) (x : Int) ((sh (k - 1) : Nat) : Int) ((256 ^ k % 18446744073709551616 : Nat) : Int) (k : Int) = some (layN x) := by
  have fin : ∀ (k F : Nat), 1 ≤ k → k ≤ 8 → sh (k - 1) ≤ x → (k < 8 → x < sh k) → furlongref03_Num.j1 (F + 10) (x : Int) ((sh (k - 1) : Nat) : Int) (k : Int) = some (layN x) := fun k F h1 h8 hlo hhi => by
    rw [num_j1 x k F h1 h8 hx hlo]
    have e := kl_is x k h8 (fun _ => hlo) hhi
    unfold layN
    rw [e, if_neg (by omega)]
  induction d with
  | zero =>
    intro k F h1 hd hlo _
    have : k = 8 := by omega
    subst this
    rw [furlongref03_Num.l0, if_neg (by omega)]
    exact fin 8 F h1 (by omega) hlo (by omega)
  | succ d ih =>
    intro k F h1 hd hlo _
    have hp := pow_le7 k (by omega)
    have hst := sh_step k h1
    have e0 : 256 ^ k % 18446744073709551616 = 256 ^ k := Nat.mod_eq_of_lt (by omega)
    have e1 : IntKind.u64.wrap ((x : Int) - ((sh (k - 1) : Nat) : Int)) = ((x - sh (k - 1) : Nat) : Int) := by rw [wrapU_id _ (by omega) (by omega)]; omega
    rw [show F + 11 + (d + 1) = F + 10 + 1 + d + 1 by omega, furlongref03_Num.l0, if_pos (by omega), e1, e0]
    by_cases h : ((x - sh (k - 1) : Nat) : Int) ≥ ((256 ^ k : Nat) : Int)
    · rw [if_pos h]
      have hs8 := sh_le k (by omega)
      have e2 : IntKind.u64.wrap (((sh (k - 1) : Nat) : Int) + ((256 ^ k : Nat) : Int)) = ((sh k : Nat) : Int) := by rw [wrapU_id _ (by omega) (by omega), hst]; omega
      have e3 : IntKind.u64.wrap (((256 ^ k : Nat) : Int) * 256) = ((256 ^ (k + 1) % 18446744073709551616 : Nat) : Int) := by
        rw [wrapU_is, Nat.pow_succ]
        omega
      rw [e2, e3, wrap64_id _ (by omega) (by omega)]
      have := ih (k + 1) F (by omega) (by omega) (by rw [Nat.add_sub_cancel]; omega) (fun _ => by
        rcases Nat.lt_or_ge k (kl x) with h3 | h3
        · exact h3
        · have := kl_hi x (by omega)
          have := sh_mono (kl x) k h3
          omega)
      rw [Nat.add_sub_cancel] at this
      exact this
    · rw [if_neg h]
      have := fin k (F + 1 + d) h1 (by omega) hlo (fun _ => by omega)
      rw [show F + 1 + d + 10 = F + 10 + 1 + d by omega] at this
      exact this
theorem num_f (x : Nat) (hx : x < 18446744073709551616) (F : Nat) : furlongref03_Num.f (F + 18) (x : Int) = some (layN x) := by
  unfold furlongref03_Num.f
  by_cases h : x < 192
  · rw [if_pos (by omega)]
    have e : kl x = 0 := kl_is x 0 (by omega) (by omega) (fun _ => by rw [sh_vals.1]; exact h)
    unfold layN
    rw [if_pos e, show (x : Int) % 256 = (x : Int) by omega]
  · rw [if_neg (by omega)]
    have := num_l0 x hx 7 1 F (by omega) (by omega) (by rw [show 1 - 1 = 0 from rfl, sh_vals.1]; omega) (fun h => h)
    have e0 : sh 0 = 192 := sh_vals.1
    simpa [e0] using this
theorem after_f (l m : List Int) (h : l.length + m.length < 140737488355328) : furlongref03_After.f l m = some (l ++ m) := by
  unfold furlongref03_After.f
  rw [Option.bind_some, if_pos (by simp; omega), Option.bind_some, if_pos (by simp; omega), List.nil_append]
theorem text_f (p : List Int) (hp : p.length ≤ 1048576) (F : Nat) : furlongref03_Text.f (F + 18) p = some (layN p.length ++ p) := by
  have k3 := kl_le p.length
  have l3 := layN_length p.length
  unfold furlongref03_Text.f
  rw [wrapU_id (p.length : Int) (by omega) (by omega), num_f _ (by omega), Option.bind_some, after_f _ _ (by omega), Option.bind_some]
theorem run_l0 (x0 x1 x7 x8 x10 x11 : List Int) (F : Nat) (d : Nat) : ∀ (x9 : List Int) (i : Nat), i + d = x9.length → x9.length ≤ 9000000 →
    furlonglaw03_StripKeeps.l0 (F + d + 1) x0 x1 x7 x8 x9 x10 x11 (x9.length : Int) (i : Int) = furlonglaw03_StripKeeps.l1 (F + d - d) x0 x1 x7 x8 x10 x11 (x11.length : Int) 0 := by
  induction d with
  | zero =>
    intro x9 i hi hl
    rw [furlonglaw03_StripKeeps.l0, if_neg (by omega)]
    rfl
  | succ d ih =>
    intro x9 i hi hl
    rw [show F + (d + 1) + 1 = F + d + 1 + 1 by omega, furlonglaw03_StripKeeps.l0, if_pos (by omega), if_pos (by omega), if_pos (by omega), wrap64_id _ (by omega) (by omega)]
    have := ih (x9.set (i : Int).toNat (Go.bits .xor .u8 (rd x9 (i : Int)) 1)) (i + 1) (by rw [List.length_set]; omega) (by rw [List.length_set]; omega)
    rw [List.length_set] at this
    rw [show F + (d + 1) - (d + 1) = F + d - d by omega]
    exact this
/-- What stands behind the second loop. -/
def behind1 (k : Nat) (x0 x1 x7 x8 x10 : List Int) : Option Bool := furlonglaw03_StripKeeps.l1 (k + 1) x0 x1 x7 x8 x10 [] 0 0
theorem run_l1 (x0 x1 x7 x8 x10 : List Int) (F : Nat) (d : Nat) : ∀ (x11 : List Int) (i : Nat), i + d = x11.length → x11.length ≤ 9000000 →
    furlonglaw03_StripKeeps.l1 (F + d + 1) x0 x1 x7 x8 x10 x11 (x11.length : Int) (i : Int) = behind1 F x0 x1 x7 x8 x10 := by
  induction d with
  | zero =>
    intro x11 i hi hl
    unfold behind1
    rw [Nat.add_zero, furlonglaw03_StripKeeps.l1, if_neg (by omega)]
    conv => rhs; rw [furlonglaw03_StripKeeps.l1, if_neg (by omega)]
  | succ d ih =>
    intro x11 i hi hl
    rw [show F + (d + 1) + 1 = F + d + 1 + 1 by omega, furlonglaw03_StripKeeps.l1, if_pos (by omega), if_pos (by omega), if_pos (by omega), wrap64_id _ (by omega) (by omega)]
    have := ih (x11.set (i : Int).toNat (Go.bits .xor .u8 (rd x11 (i : Int)) 255)) (i + 1) (by rw [List.length_set]; omega) (by rw [List.length_set]; omega)
    rw [List.length_set] at this
    exact this
theorem run_l2 (x1 x10 x17 : List Int) (x19 : Int) (x20 : List Int) (x22 : Int) (F : Nat) (d : Nat) : ∀ (x15 : List Int) (i : Nat), i + d = x15.length → x15.length ≤ 9000000 →
    furlonglaw03_StripKeeps.l2 (F + d + 1) x1 x10 x15 x17 x19 x20 x22 (x15.length : Int) (i : Int) = furlonglaw03_StripKeeps.l3 (F + d - d) x1 x10 x17 x19 x20 x22 (x10.length : Int) 0 := by
  induction d with
  | zero =>
    intro x15 i hi hl
    rw [furlonglaw03_StripKeeps.l2, if_neg (by omega)]
    rfl
  | succ d ih =>
    intro x15 i hi hl
    rw [show F + (d + 1) + 1 = F + d + 1 + 1 by omega, furlonglaw03_StripKeeps.l2, if_pos (by omega), if_pos (by omega), if_pos (by omega), wrap64_id _ (by omega) (by omega)]
    have := ih (x15.set (i : Int).toNat (Go.bits .xor .u8 (rd x15 (i : Int)) 255)) (i + 1) (by rw [List.length_set]; omega) (by rw [List.length_set]; omega)
    rw [List.length_set] at this
    rw [show F + (d + 1) - (d + 1) = F + d - d by omega]
    exact this
theorem run_l3 (p : List Int) (F : Nat) (d : Nat) : ∀ (x10 : List Int) (i : Nat), i + d = x10.length → x10.length ≤ 9000000 →
    furlonglaw03_StripKeeps.l3 (F + d + 1) p x10 p 0 p 0 (x10.length : Int) (i : Int) = some true := by
  induction d with
  | zero =>
    intro x10 i hi hl
    rw [furlonglaw03_StripKeeps.l3, if_neg (by omega), if_pos rfl, if_pos rfl]
    unfold furlongref01_Bytes.f
    rw [str_self, Option.bind_some, if_pos rfl, Option.bind_some]
  | succ d ih =>
    intro x10 i hi hl
    rw [show F + (d + 1) + 1 = F + d + 1 + 1 by omega, furlonglaw03_StripKeeps.l3, if_pos (by omega), if_pos (by omega), if_pos (by omega), wrap64_id _ (by omega) (by omega)]
    have := ih (x10.set (i : Int).toNat (Go.bits .xor .u8 (rd x10 (i : Int)) 255)) (i + 1) (by rw [List.length_set]; omega) (by rw [List.length_set]; omega)
    rw [List.length_set] at this
    exact this
theorem behind_true (b p : List Int) (F : Nat) (hb : Byt b) (hp : Byt p) (hs : b.length + p.length ≤ 1048576) :
    behind1 (F + 3000000) b p (b ++ [71, 72]) p (b ++ (layN p.length ++ p)) = some true := by
  have k3 := kl_le p.length
  have l3 := layN_length p.length
  unfold behind1
  rw [furlonglaw03_StripKeeps.l1, if_neg (by omega), if_pos (by omega), if_pos (by simp; omega), Int.toNat_natCast, List.take_left' rfl]
  unfold furlongref01_Bytes.f
  rw [str_self, str_self, Option.bind_some, if_pos rfl, Option.bind_some, if_pos rfl, show F + 3000000 = F + 2999982 + 18 by omega, text_f p (by omega), Option.bind_some, after_f _ _ (by simp; omega), Option.bind_some, str_self, Option.bind_some, if_pos rfl, show F + 2999982 + 18 = F + 2999999 + 1 by omega, furlonglaw03_StripKeeps.j3]
  by_cases h : (p.length : Int) > 60000
  · rw [decide_eq_true h, if_pos rfl, if_pos h, if_pos (by omega), if_pos (by simp; omega), Int.toNat_natCast, List.take_left' rfl]
    unfold furlongref01_Bytes.f
    rw [str_self, Option.bind_some, if_pos rfl, str_self, Option.bind_some]
  · have hv : Byt (b ++ (layN p.length ++ p)) := hb.append ((layN_byt _).append hp)
    have hg : guardN p = (p ++ gtail p, 0) := by unfold guardN; rw [if_neg (by omega)]
    have hgb : Byt (p ++ gtail p) := hp.append (fun x hx => by
      unfold gtail at hx
      simp only [List.mem_cons, List.not_mem_nil, or_false] at hx
      rcases hx with rfl | rfl | rfl | rfl <;> omega)
    have hgl : (p ++ gtail p).length = p.length + 4 := by simp [gtail]
    have hm : mendN (p ++ gtail p) = (p, -1, 0) := by
      have g : ∀ j, (p ++ gtail p).getD (p.length + j) 0 = (gtail p).getD j 0 := fun j => by
        rw [List.getD_eq_getElem?_getD, List.getD_eq_getElem?_getD, List.getElem?_append_right (by omega), Nat.add_sub_cancel_left]
      have g0 := g 0
      rw [Nat.add_zero] at g0
      unfold mendN
      rw [hgl, if_neg (by omega), Nat.add_sub_cancel, if_neg (by omega), g0, g 1, g 2, g 3, List.take_left' rfl]
      have q0 : (gtail p).getD 0 0 = s0 p % 65521 / 256 := rfl
      have q1 : (gtail p).getD 1 0 = s0 p % 65521 % 256 := rfl
      have q2 : (gtail p).getD 2 0 = s1 p % 65521 / 256 := rfl
      have q3 : (gtail p).getD 3 0 = s1 p % 65521 % 256 := rfl
      rw [q0, q1, q2, q3]
      unfold mendQ
      rw [if_pos (by omega), if_pos (by omega)]
    have hr : readB (b ++ (layN p.length ++ p)) (b.length : Int) = (p, ((b.length + (layN p.length).length + p.length : Nat) : Int), 0) := by
      have := readB_lay b [] p (by omega)
      rwa [List.append_nil] at this
    rw [decide_eq_false h, if_neg (by simp), guard_f p hp (by omega), Option.bind_some, hg]
    dsimp only
    rw [mend_f _ hgb (by omega), hm, Option.bind_some, readBytes_f _ _ hv (by simp; omega), hr, Option.bind_some]
    dsimp only
    have r2 := run_l2 p (b ++ (layN p.length ++ p)) p 0 p 0 (F + 2999998 - (p.length + 4)) (p.length + 4) (p ++ gtail p) 0 (by omega) (by omega)
    rw [show F + 2999998 - (p.length + 4) + (p.length + 4) + 1 = F + 2999999 by omega, show F + 2999998 - (p.length + 4) + (p.length + 4) - (p.length + 4) = F + 2999998 - (p.length + 4) by omega] at r2
    have hvl : (b ++ (layN p.length ++ p)).length = b.length + (layN p.length).length + p.length := by simp; omega
    have r3 := run_l3 p (F + 2999998 - (p.length + 4) - (b.length + (layN p.length).length + p.length) - 1) (b.length + (layN p.length).length + p.length) (b ++ (layN p.length ++ p)) 0 (by omega) (by omega)
    rw [show F + 2999998 - (p.length + 4) - (b.length + (layN p.length).length + p.length) - 1 + (b.length + (layN p.length).length + p.length) + 1 = F + 2999998 - (p.length + 4) by omega] at r3
    exact r2.trans r3
theorem StripKeepsUpto (b p : List Int) (a2 : Int) (_h0 : b.length ≤ maxLen) (_h1 : b.length * 1 ≤ 140737488351232) (h2 : ∀ x ∈ b, (Lit.int .u8 x).wf = true) (_h5 : p.length ≤ maxLen) (_h6 : p.length * 1 ≤ 140737488351232) (h7 : ∀ x ∈ p, (Lit.int .u8 x).wf = true)
    (h3 : (Lit.int .u64 a2).wf = true) (hs : b.length + p.length ≤ 1048576) : ∃ k, furlonglaw03_StripKeeps.f k b p a2 = some true := by
  obtain ⟨x, rfl, hx⟩ := u64_of h3
  have hb := byt_of h2
  have hp := byt_of h7
  have k1 := kl_le x
  have k3 := kl_le p.length
  have l1 := layN_length x
  have l3 := layN_length p.length
  have e1 : IntKind.u64.wrap (p.length : Int) = ((p.length : Nat) : Int) := wrapU_id _ (by omega) (by omega)
  have hlb : strip_LayBytes.f b p = some (b ++ (layN p.length ++ p)) := by
    unfold strip_LayBytes.f
    rw [e1, lay_f b _ (by omega) (by omega), Option.bind_some, if_pos (by simp; omega), List.append_assoc]
  have hgl : (guardN p).1.length ≤ p.length + 4 := by
    unfold guardN
    split
    · simp
    · simp [gtail]
  have hg2 : (((guardN p).2 == 0) != decide ((p.length : Int) ≤ 60000)) = false := by
    unfold guardN
    by_cases h : 60000 < p.length
    · rw [if_pos h, decide_eq_false (by omega)]
      rfl
    · rw [if_neg h, decide_eq_true (by omega)]
      rfl
  have key : ∃ k, furlonglaw03_StripKeeps.j0 k b p (b ++ [71, 72]) p (b ++ layN x) (b ++ (layN p.length ++ p)) (guardN p).1 false = some true := by
    have hul : (b ++ layN x).length = b.length + (layN x).length := by simp
    refine ⟨3000000 + (guardN p).1.length + 1 + (b.length + (layN x).length) + 1 + 1, ?_⟩
    rw [furlonglaw03_StripKeeps.j0, if_neg (by simp)]
    have r0 := run_l0 b p (b ++ [71, 72]) p (b ++ (layN p.length ++ p)) (guardN p).1 (3000000 + (guardN p).1.length + 1) (b.length + (layN x).length) (b ++ layN x) 0 (by omega) (by omega)
    rw [show 3000000 + (guardN p).1.length + 1 + (b.length + (layN x).length) - (b.length + (layN x).length) = 3000000 + (guardN p).1.length + 1 by omega] at r0
    have r1 := run_l1 b p (b ++ [71, 72]) p (b ++ (layN p.length ++ p)) 3000000 (guardN p).1.length (guardN p).1 0 (by omega) (by omega)
    have r2 := behind_true b p 0 hb hp hs
    rw [Nat.zero_add] at r2
    exact r0.trans (r1.trans r2)
  obtain ⟨k, hk⟩ := key
  refine ⟨k, ?_⟩
  unfold furlonglaw03_StripKeeps.f furlonglaw03_awake.f
  rw [Option.bind_some, if_pos rfl, Option.bind_some, if_pos (by simp; omega), Option.bind_some, Option.bind_some, if_pos (by simp; omega), Option.bind_some, Option.bind_some, if_pos (by simp; omega), Option.bind_some, if_pos (by omega), if_pos (by simp; omega), Int.toNat_natCast]
  rw [List.nil_append, List.nil_append, List.take_left' rfl, lay_f b x hx (by omega), Option.bind_some, hlb, Option.bind_some, guard_f p hp (by omega), Option.bind_some, Option.bind_some, if_pos (by simp; omega), Option.bind_some, Option.bind_some, if_pos (by simp; omega)]
  unfold furlongref01_Bytes.f
  rw [List.nil_append, str_self, Option.bind_some, if_pos rfl, str_self, Option.bind_some, if_pos rfl, hg2]
  exact hk
end Go.Proofs.Ytijcjllojhpioaa.Pure
