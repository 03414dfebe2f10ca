/- ahead: which of two texts of bytes stands ahead: contract. -/
import Derived.Test.YtijcjllojhpioaaAw03
import Derived.Deep.QuietTactic
import Derived.BigQuiet
namespace Go.Fur
open Go Go.RowKit Go.Proofs Go.Proofs.YtijcjllojhpioaaW.PrintWords
set_option linter.unusedVariables false
set_option linter.unusedSimpArgs false
def aheadN : List Int → List Int → Bool
  | a :: l, b :: m => if a = b then aheadN l m else decide (a < b)
  | _, _ => false
def AhR (w : World) (l m : List Int) (r : Bool) (i : Value) (wr : World) : Prop := ∃ k : Nat, k ≤ l.length ∧ k ≤ m.length ∧ i = .int .i64 k ∧ aheadN (l.drop k) (m.drop k) = r ∧ Drawn0 w wr
def AhE (r : Bool) (w : World) (e : Ending) (w' : World) : Prop := e = .returned (.bool r) ∧ Drawn0 w w'
theorem cell_drawn {w wr : World} (h : Drawn0 w wr) {p : Addr} {v : Value} (hc : w.cell? p = some v) : wr.cell? p = some v := by
  obtain ⟨n, rfl⟩ := h
  exact hc
set_option maxRecDepth 100000 in
set_option maxHeartbeats 1000000 in
theorem ahead_calls (w : World) (a b : Option Addr) (c d : Nat) (l m : List Int) (hl : l.length ≤ 140737488355328) (hm : m.length ≤ 140737488355328) (ra : Rd w a (bv l)) (rb : Rd w b (bv m)) :
    Calls Try.prog 18 #[.slice a l.length c, .slice b m.length d] w (AhE (aheadN l m) w) := by
  have R0 : AhR w l m (aheadN l m) (.int .i64 0) w := ⟨0, Nat.zero_le _, Nat.zero_le _, rfl, rfl, Drawn0.refl w⟩
  generalize aheadN l m = r at *
  have HR0 := Lib.hid R0
  have HA := Lib.hid ra
  have HB := Lib.hid rb
  clear R0 ra rb
  obtain ⟨q, hq1, hq2, hq⟩ : ∃ q : Nat, q ≤ l.length ∧ q ≤ m.length ∧ (q = l.length ∨ q = m.length) ∧ (if (m.length : Int) < (l.length : Int) then (m.length : Int) else (l.length : Int)) = (q : Int) := by
    by_cases h : (m.length : Int) < (l.length : Int)
    · exact ⟨m.length, by omega, by omega, .inr rfl, if_pos h⟩
    · exact ⟨l.length, by omega, by omega, .inl rfl, if_neg h⟩
  obtain ⟨hq3, hq⟩ := hq
  by_cases hlm : (m.length : Int) < (l.length : Int)
  all_goals
    have HQ := Lib.hid hq3
    clear hq3
    try rw [if_pos hlm] at hq
    try rw [if_neg hlm] at hq
    go_enter Try.func18, Try.ntmps18
    go_wp2_with fail
    clear hlm hq
    go_loopw [11] (fun i wr => AhR w l m r i wr) (fun i _ => q - (intOf i).toNat)
    case atStart => exact HR0.out
    case round =>
      obtain ⟨k, hk1, hk2, rfl, hr, hd⟩ := hrel
      by_cases hlt : k < q
      · have kb : (k : Int) < (q : Int) := by omega
        have k1 : (k : Int) < (l.length : Int) := by omega
        have k2 : (k : Int) < (m.length : Int) := by omega
        obtain ⟨x, hx⟩ : ∃ x, l[k]? = some x := ⟨l[k]'(by omega), List.getElem?_eq_getElem (by omega)⟩
        obtain ⟨y, hy⟩ : ∃ y, m[k]? = some y := ⟨m[k]'(by omega), List.getElem?_eq_getElem (by omega)⟩
        obtain ⟨ba, oa, rfl, ha⟩ := HA.out (by intro e; have := congrArg List.length e; simp at this; subst this; simp at hx)
        obtain ⟨bb, ob, rfl, hb⟩ := HB.out (by intro e; have := congrArg List.length e; simp at this; subst this; simp at hy)
        have c1 : wr.cell? ⟨ba, oa + k, none⟩ = some (.int .u8 x) := cell_drawn hd (ha k _ (by rw [bv_get, hx]; rfl))
        have c2 : wr.cell? ⟨bb, ob + k, none⟩ = some (.int .u8 y) := cell_drawn hd (hb k _ (by rw [bv_get, hy]; rfl))
        have dl : l.drop k = x :: l.drop (k + 1) := by
          obtain ⟨h1, h2⟩ := List.getElem?_eq_some_iff.1 hx
          rw [List.drop_eq_getElem_cons h1, h2]
        have dm : m.drop k = y :: m.drop (k + 1) := by
          obtain ⟨h1, h2⟩ := List.getElem?_eq_some_iff.1 hy
          rw [List.drop_eq_getElem_cons h1, h2]
        rw [dl, dm, aheadN] at hr
        have HD := Lib.hid hd
        clear hx hy ha hb dl dm hd
        by_cases hxy : x = y
        · rw [if_pos hxy] at hr
          have hxb : (x == y) = true := by simpa using hxy
          have HR := Lib.hid hr
          clear hr hxy
          go_wp2_with fail
          go_quiet (fail)
          go_wp2_with fail
          go_roundw
          case rel => exact ⟨k + 1, by omega, by omega, rfl, HR.out, Drawn0.step HD.out _⟩
          case measure => simp [intOf]; omega
        · rw [if_neg hxy] at hr
          have hxb : (x == y) = false := by simpa using hxy
          have HR := Lib.hid hr
          clear hr hxy
          go_wp2_with fail
          go_quiet (fail)
          go_wp2_with fail
          go_quiet (fail)
          go_wp2_with fail
          go_ret
          rw [← HR.out]
          exact ⟨rfl, Drawn0.step (Drawn0.step HD.out _) _⟩
      · have kb : ¬ (k : Int) < (q : Int) := by omega
        have e : r = false := by
          rw [← hr]
          rcases HQ.out with h | h
          · rw [List.drop_eq_nil_of_le (by omega)]
            rfl
          · rw [show m.drop k = [] from List.drop_eq_nil_of_le (by omega)]
            cases l.drop k <;> rfl
        have HR := Lib.hid e
        clear hr e
        go_wp2_with fail
        go_ret
        rw [HR.out]
        exact ⟨rfl, hd⟩
end Go.Fur
namespace Go.Proofs.Ytijcjllojhpioaa
open Go Go.RowKit Go.Fur Go.Proofs.YtijcjllojhpioaaW.PrintWords
def furlonglaw03_ahead.f (l m : List Int) : Option Bool := if l.length ≤ 140737488355328 ∧ m.length ≤ 140737488355328 then some (aheadN l m) else none
theorem furlonglaw03_ahead.calls (A0 : Option Addr) (c0 : Nat) (l0 : List Int) (A1 : Option Addr) (c1 : Nat) (l1 : List Int) (r : Bool) (w : World) (hr0 : Kd.C (Kd.int .u8) w A0 l0.length l0) (_hc0 : l0.length ≤ c0) (hr1 : Kd.C (Kd.int .u8) w A1 l1.length l1) (_hc1 : l1.length ≤ c1) (h : furlonglaw03_ahead.f l0 l1 = some r) :
    Calls Try.prog 18 #[.slice A0 l0.length c0, .slice A1 l1.length c1] w fun e w' => e = .returned (.bool r) ∧ Drawn0 w w' := by
  unfold furlonglaw03_ahead.f at h
  split at h
  · rename_i hc
    obtain rfl := Option.some.inj h
    exact ahead_calls w A0 A1 c0 c1 l0 l1 hc.1 hc.2 (rdb_of_C hr0) (rdb_of_C hr1)
  · cases h
end Go.Proofs.Ytijcjllojhpioaa
