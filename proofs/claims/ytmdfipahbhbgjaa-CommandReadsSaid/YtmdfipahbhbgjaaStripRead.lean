/- strip.Read: contract. -/
import Derived.Test.YtmdfipahbhbgjaaStripLay
import Derived.WalkMore
import Derived.Laws.BitsAllLaws
import Derived.Outline
namespace Go.Fur
open Go Go.RowKit Go.Proofs
set_option linter.unusedVariables false
set_option linter.unusedSimpArgs false
/-- Digits to the base 256. -/
def n256 (l : List Int) : Nat := l.foldl (fun x c => 256 * x + c.toNat) 0
theorem n256_snoc (l : List Int) (c : Int) : n256 (l ++ [c]) = 256 * n256 l + c.toNat := by simp [n256]
theorem n256_lt_aux : ∀ (l : List Int) (a : Nat), Byt l → l.foldl (fun x c => 256 * x + c.toNat) a < (a + 1) * 256 ^ l.length
  | [], a, _ => by simp
  | c :: l, a, h => by
    have h1 := n256_lt_aux l (256 * a + c.toNat) (fun x hx => h x (by simp [hx]))
    have h2 := h c (by simp)
    rw [List.foldl_cons, List.length_cons, Nat.pow_succ]
    refine Nat.lt_of_lt_of_le h1 ?_
    rw [Nat.mul_comm (256 ^ l.length) 256, ← Nat.mul_assoc]
    exact Nat.mul_le_mul_right _ (by omega)
theorem n256_lt (l : List Int) (h : Byt l) : n256 l < 256 ^ l.length := by
  have := n256_lt_aux l 0 h
  simpa [n256] using this
theorem or_digit (x y : Nat) (hx : x < 72057594037927936) (hy : y < 256) : bits BinOp.or IntKind.u64 ((x : Int) * 256) (y : Int) = ((256 * x + y : Nat) : Int) := by
  have h := u64_or_nat (x * 256) y (by omega) (by omega)
  have h2 := Nat.two_pow_add_eq_or_of_lt (i := 8) (b := y) (by simpa using hy) x
  rw [Int.natCast_mul] at h
  rw [show ((256 : Nat) : Int) = 256 from rfl] at h
  rw [h, Nat.mul_comm x 256, ← show 2 ^ 8 * x = 256 * x from rfl, ← h2]
/-- What is read at a place: the number, the place behind it, the error. -/
def readN (b : List Int) (at_ : Int) : Int × Int × Int :=
  if at_ < 0 ∨ (b.length : Int) < at_ then (0, 0, 1) else
  match b.drop at_.toNat with
  | [] => (0, at_, 5)
  | h :: t =>
    if h < 192 then (h, at_ + 1, 0) else if 199 < h then (0, at_, 4) else
    if t.length < (h - 191).toNat then (0, (b.length : Int), 5) else
    if 18446744073709551616 ≤ n256 (t.take (h - 191).toNat) + sh ((h - 191).toNat - 1) then (0, at_, 4) else
    ((n256 (t.take (h - 191).toNat) + sh ((h - 191).toNat - 1) : Nat), at_ + 1 + ((h - 191).toNat : Int), 0)
def ReadR (w : World) (t : List Int) (k : Nat) (x left i : Value) (wr : World) : Prop :=
  ∃ m : Nat, m ≤ t.length ∧ m < k ∧ x = .int .u64 (n256 (t.take m)) ∧ left = .int .i64 ((k - m : Nat) : Int) ∧ i = .int .i64 m ∧ w = wr
theorem sh_le (k : Nat) (h : k ≤ 8) : sh (k - 1) ≤ 72340172838076864 := by
  have := sh_mono (k - 1) 7 (by omega)
  rwa [sh_vals.2.2.2.2.2.2.2] at this
def ReadE (r : Int × Int × Int) (w : World) (e : Ending) (w' : World) : Prop := e = .returned (.tuple #[.int .u64 r.1, .int .i64 r.2.1, .int .i64 r.2.2]) ∧ w = w'
set_option maxRecDepth 100000 in
set_option maxHeartbeats 1000000 in
theorem read_calls (w : World) (a : Option Addr) (n c : Nat) (l : List Int) (hl : l.length = n) (hc : n ≤ c) (hn : n ≤ 140737488355328) (hb : Byt l) (ra : Rd w a (bv l)) (at_ : Int) :
    Calls Try.prog 110 #[.slice a n c, .int .i64 at_] w (ReadE (readN l at_) w) := by
  subst hl
  by_cases h0 : at_ < 0
  · have e : readN l at_ = (0, 0, 1) := by unfold readN; rw [if_pos (.inl h0)]
    rw [e]
    clear e
    go_enter Try.func110, Try.ntmps110
    go_wp2_with fail
    go_step3
    go_wp2_with fail
    rw [Exit.noGoto_ret]
    go_ret3
    exact ⟨rfl, rfl⟩
  by_cases h1 : (l.length : Int) < at_
  · have e : readN l at_ = (0, 0, 1) := by unfold readN; rw [if_pos (.inr h1)]
    rw [e]
    clear e
    go_enter Try.func110, Try.ntmps110
    go_wp2_with fail
    go_step3
    go_wp2_with fail
    rw [Exit.noGoto_ret]
    go_ret3
    exact ⟨rfl, rfl⟩
  obtain ⟨i, rfl⟩ := Int.eq_ofNat_of_zero_le (show 0 ≤ at_ by omega)
  have hi : i ≤ l.length := by omega
  by_cases h2 : i = l.length
  · have e : readN l i = (0, (i : Int), 5) := by
      unfold readN
      rw [if_neg (by omega), Int.toNat_natCast, List.drop_eq_nil_of_le (by omega)]
    rw [e]
    clear e
    subst h2
    clear hi
    go_enter Try.func110, Try.ntmps110
    go_wp2_with fail
    go_step3
    go_wp2_with fail
    rw [Exit.noGoto_ret]
    go_ret3
    exact ⟨rfl, rfl⟩
  have hlt : i < l.length := by omega
  obtain ⟨h, t, hd⟩ : ∃ h t, l.drop i = h :: t := ⟨l[i], l.drop (i + 1), by rw [List.drop_eq_getElem_cons hlt]⟩
  have hli : l[i]? = some h := by
    have := congrArg (·[0]?) hd
    simpa using this
  have ht : t = l.drop (i + 1) := by
    have := congrArg List.tail hd
    simpa using this.symm
  have hby := hb h (List.mem_of_getElem? hli)
  obtain ⟨b, o, rfl, hr⟩ := ra (by intro e; have := congrArg List.length e; simp at this; subst this; simp at hlt)
  have hcell : w.cell? ⟨b, o + i, none⟩ = some (.int .u8 h) := hr i _ (by rw [bv_get, hli]; rfl)
  have hRr : readN l i = if h < 192 then (h, (i : Int) + 1, 0) else if 199 < h then (0, (i : Int), 4) else
    if t.length < (h - 191).toNat then (0, (l.length : Int), 5) else
    if 18446744073709551616 ≤ n256 (t.take (h - 191).toNat) + sh ((h - 191).toNat - 1) then (0, (i : Int), 4) else
    ((n256 (t.take (h - 191).toNat) + sh ((h - 191).toNat - 1) : Nat), (i : Int) + 1 + ((h - 191).toNat : Int), 0) := by
      unfold readN
      rw [if_neg (by omega), Int.toNat_natCast, hd]
  have i0 : ((i : Int) == (l.length : Int)) = false := by simp; omega
  have i1 : ¬ (i : Int) < 0 := by omega
  have i2 : ¬ (l.length : Int) < (i : Int) := by omega
  have i3 : (i : Int) < (l.length : Int) := by omega
  have i4 : (0 : Int) ≤ (i : Int) := by omega
  have hby0 := hby.1
  have hby1 := hby.2
  have HR := Lib.hid hr
  have HD := Lib.hid (And.intro hd (And.intro hli ht))
  generalize readN l (i : Int) = r at *
  have HB := Lib.hid hb
  clear hr hd hli ht hb h0 h1 h2 hby ra
  by_cases h3 : h < 192
  · rw [if_pos h3] at hRr
    subst hRr
    go_enter Try.func110, Try.ntmps110
    go_wp2_with fail
    go_step3
    go_wp2_with fail
    rw [Exit.noGoto_ret]
    go_ret3
    exact ⟨rfl, rfl⟩
  rw [if_neg h3] at hRr
  by_cases h4 : 199 < h
  · rw [if_pos h4] at hRr
    subst hRr
    go_enter Try.func110, Try.ntmps110
    go_wp2_with fail
    go_step3
    go_wp2_with fail
    rw [Exit.noGoto_ret]
    go_ret3
    exact ⟨rfl, rfl⟩
  rw [if_neg h4] at hRr
  obtain ⟨k, hk⟩ : ∃ k : Nat, h = (k : Int) + 191 := ⟨(h - 191).toNat, by omega⟩
  have hkk : (h - 191).toNat = k := by omega
  rw [hkk] at hRr
  have HE := Lib.hid hRr
  clear hRr
  subst hk
  have hk8 : 1 ≤ k ∧ k ≤ 8 := by omega
  obtain ⟨hk1, hk8⟩ := hk8
  have htl : t.length + (i + 1) = l.length := by rw [HD.out.2.2, List.length_drop]; omega
  have R0 : ReadR w t k (.int .u64 0) (.int .i64 k) (.int .i64 0) w := ⟨0, Nat.zero_le _, hk1, rfl, rfl, rfl, rfl⟩
  have HR0 := Lib.hid R0
  have HT := Lib.hid htl
  clear R0 hkk htl h3 h4
  have j1 : decide ((i : Int) < 0) = false := by simp
  have j2 : decide ((k : Int) + 191 < 192) = false := by simp; omega
  have j3 : decide ((199 : Int) < (k : Int) + 191) = false := by simp; omega
  have hwk : (k : Int) + 191 - 192 + 1 = (k : Int) := by omega
  by_cases hcap : c = i + 1
  · subst hcap
    go_enter Try.func110, Try.ntmps110
    go_wp2_with fail
    go_step3
    go_wp2_with fail
    go_step3
    go_wp2_with fail
    clear hwk j1 j2 j3
    have hE : r = (0, (l.length : Int), 5) := by rw [HE.out, if_pos (by have := HT.out; omega)]
    have hk0 : 0 < (k : Int) := by omega
    clear HE
    have HE := Lib.hid hE
    clear hE
    have hnl : ¬ 0 < l.length - (i + 1) := by omega
    go_loopw [8, 9, 61] (fun x left j wr => x = .int .u64 0 ∧ left = .int .i64 k ∧ j = .int .i64 (0 : Nat) ∧ w = wr) (fun _ _ _ _ => 0)
    case atStart => exact ⟨rfl, rfl, rfl, rfl⟩
    case round =>
      obtain ⟨rfl, rfl, rfl, rfl⟩ := hrel
      go_wp2_with fail
      refine (shelf_calls w k hk1 hk8).mono ?_
      rintro e w' ⟨rfl, rfl⟩
      go_wp2_with fail
      rw [Exit.noGoto_ret]
      go_ret3
      rw [HE.out]
      exact ⟨rfl, rfl⟩
  · go_enter Try.func110, Try.ntmps110
    go_wp2_with fail
    go_step3
    go_wp2_with fail
    go_step3
    go_wp2_with fail
    clear hwk j1 j2 j3
    go_loopw [8, 9, 61] (fun x left i wr => ReadR w t k x left i wr) (fun _ _ i _ => t.length - (intOf i).toNat)
    case atStart => exact HR0.out
    case round =>
      obtain ⟨m, hm, hmk, rfl, rfl, rfl, rfl⟩ := hrel
      by_cases hlt2 : m < t.length
      · have hnl : m < l.length - (i + 1) := by have := HT.out; omega
        obtain ⟨y, hy⟩ : ∃ y, t[m]? = some y := ⟨t[m], List.getElem?_eq_getElem hlt2⟩
        have hyl : l[i + 1 + m]? = some y := by
          have := hy
          rw [HD.out.2.2, List.getElem?_drop] at this
          exact this
        have hyb := HB.out y (List.mem_of_getElem? hyl)
        have hc2 : w.cell? ⟨b, o + (i + 1) + m, none⟩ = some (.int .u8 y) := by
          have := HR.out (i + 1 + m) (.int .u8 y) (by rw [bv_get, hyl]; rfl)
          rwa [show o + (i + 1) + m = o + (i + 1 + m) by omega]
        have hsn : n256 (t.take (m + 1)) = 256 * n256 (t.take m) + y.toNat := by
          rw [List.take_add_one, hy]
          exact n256_snoc _ _
        have hlo : n256 (t.take m) < 256 ^ m := by
          have := n256_lt (t.take m) (by rw [HD.out.2.2]; exact (HB.out.drop _).take _)
          rwa [List.length_take, Nat.min_eq_left hm] at this
        have h56 : n256 (t.take m) < 72057594037927936 := Nat.lt_of_lt_of_le hlo (Nat.le_trans (Nat.pow_le_pow_right (by omega) (show m ≤ 7 by omega)) (by decide))
        have hy0 := hyb.1
        have hy1 := hyb.2
        have HS := Lib.hid hsn
        have HX := Lib.hid hlo
        clear hsn hlo hyb hy hyl
        generalize hx : n256 (t.take m) = x at *
        obtain ⟨z, rfl⟩ := Int.eq_ofNat_of_zero_le hy0
        rw [Int.toNat_natCast] at HS
        have hor := or_digit x z h56 (by omega)
        by_cases hlast : m + 1 = k
        · have hkm : ((k - m : Nat) : Int) - 1 = 0 := by omega
          have hx2 : 256 * x + z < 256 ^ k := by
            rw [← hlast, Nat.pow_succ]
            have := HX.out
            omega
          have hx3 : 256 * x + z < 18446744073709551616 := by omega
          generalize hX : 256 * x + z = X at *
          have hE : r = if 18446744073709551616 ≤ X + sh (k - 1) then (0, (i : Int), 4) else (((X + sh (k - 1) : Nat) : Int), (i : Int) + 1 + k, 0) := by
            rw [HE.out, if_neg (by omega), ← hlast, HS.out]
          have hsk := sh_le k hk8
          clear HE hx HX hX hx2
          have HL := Lib.hid hlast
          clear hlast
          by_cases hov : 18446744073709551616 ≤ X + sh (k - 1)
          · rw [if_pos hov] at hE
            have HE := Lib.hid hE
            obtain ⟨Z, hZ, hZ2⟩ : ∃ Z : Nat, Z < sh (k - 1) ∧ IntKind.u64.wrap ((X : Int) + (sh (k - 1) : Int)) = (Z : Int) := ⟨X + sh (k - 1) - 18446744073709551616, by omega, by rw [IntKind.wrap_u64]; omega⟩
            clear hE hov hx3 hsk
            generalize hs : sh (k - 1) = s at *
            have HZ := Lib.hid hs
            clear hs
            have hZi : (Z : Int) < (s : Int) := by omega
            go_wp2_with fail
            refine (shelf_calls w k hk1 hk8).mono ?_
            rintro e w' ⟨rfl, rfl⟩
            rw [HZ.out]
            go_wp2_with fail
            rw [Exit.noGoto_ret]
            go_ret3
            rw [HE.out]
            exact ⟨rfl, rfl⟩
          · rw [if_neg hov] at hE
            have HE := Lib.hid hE
            have hZ2 : IntKind.u64.wrap ((X : Int) + (sh (k - 1) : Int)) = ((X + sh (k - 1) : Nat) : Int) := by rw [IntKind.wrap_u64]; omega
            have hZi : ¬ ((X + sh (k - 1) : Nat) : Int) < (sh (k - 1) : Int) := by omega
            clear hE hov hx3 hsk
            generalize hs : sh (k - 1) = s at *
            have HZ := Lib.hid hs
            clear hs
            go_wp2_with fail
            refine (shelf_calls w k hk1 hk8).mono ?_
            rintro e w' ⟨rfl, rfl⟩
            rw [HZ.out]
            go_wp2_with fail
            rw [Exit.noGoto_ret]
            go_ret3
            rw [HE.out]
            exact ⟨rfl, rfl⟩
        · have hkm : (((k - m : Nat) : Int) - 1 == 0) = false := by simp; omega
          clear HX
          go_wp2_with fail
          refine ⟨⟨m + 1, by omega, by omega, ?_, ?_, rfl, rfl⟩, by simp [intOf]; omega⟩
          · rw [HS.out]
            exact congrArg _ (by omega)
          · congr 1
            omega
      · have hmt : ¬ m < l.length - (i + 1) := by have := HT.out; omega
        have hE : r = (0, (l.length : Int), 5) := by rw [HE.out, if_pos (by omega)]
        have hk0 : 0 < ((k - m : Nat) : Int) := by omega
        clear HE
        have HE := Lib.hid hE
        clear hE
        go_wp2_with fail
        refine (shelf_calls w k hk1 hk8).mono ?_
        rintro e w' ⟨rfl, rfl⟩
        go_wp2_with fail
        rw [Exit.noGoto_ret]
        go_ret3
        rw [HE.out]
        exact ⟨rfl, rfl⟩
end Go.Fur
