/- The functions of strip that are given to the printing program: what they compute, and that they do. -/
import Derived.Test.YtijcjllojhpioaaGiv
import Derived.Test.YtijcjllojhpioaaStripRB
import Derived.Test.YtijcjllojhpioaaStripM
namespace Go.Proofs.Ytijcjllojhpioaa
set_option linter.unusedVariables false
open Go Go.RowKit Go.Fur Go.Proofs.YtijcjllojhpioaaW.PrintWords
def bytB (l : List Int) : Bool := l.all fun x => decide (0 ≤ x) && decide (x < 256)
theorem bytB_is {l : List Int} : bytB l = true ↔ Byt l := by
  unfold bytB Byt
  simp
/-- Bytes of a length that a machine may hold. -/
def okB (l : List Int) : Bool := bytB l && decide (l.length ≤ 140737488355328)
theorem okB_is {l : List Int} : okB l = true ↔ Byt l ∧ l.length ≤ 140737488355328 := by
  unfold okB
  rw [Bool.and_eq_true, bytB_is, decide_eq_true_eq]
def strip_Lay.f (l : List Int) (x : Int) : Option (List Int) := if l.length + 9 ≤ 140737488355328 ∧ 0 ≤ x ∧ x < 18446744073709551616 then some (l ++ layN x.toNat) else none
theorem strip_Lay.calls (A0 : Option Addr) (c0 : Nat) (l0 : List Int) (a1 : Int) (r : List Int) (w : World) (hr0 : Kd.C (Kd.int .u8) w A0 l0.length l0) (hc0 : l0.length ≤ c0) (h : strip_Lay.f l0 a1 = some r) :
    Calls Try.prog 17 #[.slice A0 l0.length c0, .int .u64 a1] w fun e w' => ∃ v0_ : Value, e = .returned (v0_) ∧ Kd.R (Kd.int .u8) 5 w' w.heap.size (fun _ => True) v0_ r ∧ Below w.heap.size w w' := by
  unfold strip_Lay.f at h
  split at h
  · rename_i hc
    obtain rfl := Option.some.inj h
    obtain ⟨x, rfl⟩ := Int.eq_ofNat_of_zero_le hc.2.1
    refine (lay_calls w A0 l0.length c0 l0 rfl (by omega) (rdb_of_C hr0) x (by omega)).mono ?_
    rintro e w' ⟨v, rfl, ho, hf⟩
    exact ⟨v, rfl, Rb_of_own ho, below_of_fr hf⟩
  · cases h
def strip_Size.f (x : Int) : Option Int := if 0 ≤ x ∧ x < 18446744073709551616 then some ((1 + kl x.toNat : Nat) : Int) else none
theorem strip_Size.calls (a0 : Int) (r : Int) (w : World) (h : strip_Size.f a0 = some r) :
    Calls Try.prog 19 #[.int .u64 a0] w fun e w' => e = .returned (.int .i64 r) ∧ Drawn0 w w' := by
  unfold strip_Size.f at h
  split at h
  · rename_i hc
    obtain rfl := Option.some.inj h
    obtain ⟨x, rfl⟩ := Int.eq_ofNat_of_zero_le hc.1
    refine (size_calls w x).mono ?_
    rintro e w' ⟨rfl, rfl⟩
    exact ⟨rfl, Drawn0.refl _⟩
  · cases h
def strip_Read.f (l : List Int) (at_ : Int) : Option (Int × Int × Int) := if okB l = true then some (readN l at_) else none
theorem strip_Read.calls (A0 : Option Addr) (c0 : Nat) (l0 : List Int) (a1 : Int) (r1 : Int) (r2 : Int) (r3 : Int) (w : World) (hr0 : Kd.C (Kd.int .u8) w A0 l0.length l0) (hc0 : l0.length ≤ c0) (h : strip_Read.f l0 a1 = some (r1, r2, r3)) :
    Calls Try.prog 20 #[.slice A0 l0.length c0, .int .i64 a1] w fun e w' => e = .returned (.tuple #[.int .u64 r1, .int .i64 r2, .int .i64 r3]) ∧ Drawn0 w w' := by
  unfold strip_Read.f at h
  split at h
  · rename_i hc
    obtain ⟨h1, h2⟩ := okB_is.1 hc
    have h := Option.some.inj h
    refine (read_calls w A0 l0.length c0 l0 rfl hc0 h2 h1 (rdb_of_C hr0) a1).mono ?_
    rintro e w' ⟨rfl, rfl⟩
    rw [h]
    exact ⟨rfl, Drawn0.refl _⟩
  · cases h
def strip_ReadBytes.f (l : List Int) (at_ : Int) : Option (List Int × Int × Int) := if okB l = true then some (readB l at_) else none
theorem strip_ReadBytes.calls (A0 : Option Addr) (c0 : Nat) (l0 : List Int) (a1 : Int) (r1 : List Int) (r2 : Int) (r3 : Int) (w : World) (hr0 : Kd.C (Kd.int .u8) w A0 l0.length l0) (hc0 : l0.length ≤ c0) (h : strip_ReadBytes.f l0 a1 = some (r1, r2, r3)) :
    Calls Try.prog 27 #[.slice A0 l0.length c0, .int .i64 a1] w fun e w' => ∃ v0_ : Value, e = .returned (.tuple #[v0_, .int .i64 r2, .int .i64 r3]) ∧ Kd.R (Kd.int .u8) 5 w' w.heap.size (fun _ => True) v0_ r1 ∧ Below w.heap.size w w' := by
  unfold strip_ReadBytes.f at h
  split at h
  · rename_i hc
    obtain ⟨h1, h2⟩ := okB_is.1 hc
    have h := Option.some.inj h
    refine (readBytes_calls w A0 l0.length c0 l0 rfl hc0 h2 h1 (rdb_of_C hr0) a1).mono ?_
    rintro e w' ⟨v, rfl, ho, hf⟩
    rw [h] at ho ⊢
    exact ⟨v, rfl, Rb_of_own ho, below_of_fr hf⟩
  · cases h
def strip_Guard.f (l : List Int) : Option (List Int × Int) := if okB l = true then some (guardN l) else none
theorem strip_Guard.calls (A0 : Option Addr) (c0 : Nat) (l0 : List Int) (r1 : List Int) (r2 : Int) (w : World) (hr0 : Kd.C (Kd.int .u8) w A0 l0.length l0) (hc0 : l0.length ≤ c0) (h : strip_Guard.f l0 = some (r1, r2)) :
    Calls Try.prog 12 #[.slice A0 l0.length c0] w fun e w' => ∃ v0_ : Value, e = .returned (.tuple #[v0_, .int .i64 r2]) ∧ Kd.R (Kd.int .u8) 5 w' w.heap.size (fun _ => True) v0_ r1 ∧ Below w.heap.size w w' := by
  unfold strip_Guard.f at h
  split at h
  · rename_i hc
    obtain ⟨h1, h2⟩ := okB_is.1 hc
    have h := Option.some.inj h
    refine (guard_calls w A0 l0.length c0 l0 rfl hc0 h2 h1 (rdb_of_C hr0)).mono ?_
    rintro e w' ⟨v, rfl, ho, hf⟩
    rw [h] at ho ⊢
    exact ⟨v, rfl, Rb_of_own ho, below_of_fr hf⟩
  · cases h
def strip_Mend.f (l : List Int) : Option (List Int × Int × Int) := if okB l = true then some (mendN l) else none
theorem strip_Mend.calls (A0 : Option Addr) (c0 : Nat) (l0 : List Int) (r1 : List Int) (r2 : Int) (r3 : Int) (w : World) (hr0 : Kd.C (Kd.int .u8) w A0 l0.length l0) (hc0 : l0.length ≤ c0) (h : strip_Mend.f l0 = some (r1, r2, r3)) :
    Calls Try.prog 15 #[.slice A0 l0.length c0] w fun e w' => ∃ v0_ : Value, e = .returned (.tuple #[v0_, .int .i64 r2, .int .i64 r3]) ∧ Kd.R (Kd.int .u8) 5 w' w.heap.size (fun _ => True) v0_ r1 ∧ Below w.heap.size w w' := by
  unfold strip_Mend.f at h
  split at h
  · rename_i hc
    obtain ⟨h1, h2⟩ := okB_is.1 hc
    have h := Option.some.inj h
    refine (mend_calls w A0 l0.length c0 l0 rfl hc0 h2 h1 (rdb_of_C hr0)).mono ?_
    rintro e w' ⟨v, rfl, ho, hf⟩
    rw [h] at ho ⊢
    exact ⟨v, rfl, Rb_of_own ho, below_of_fr hf⟩
  · cases h
end Go.Proofs.Ytijcjllojhpioaa
