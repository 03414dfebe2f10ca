/- Bridges between the kinds of the print's words and the frames of this session's own texts. -/
import Derived.Test.YtmdfipahbhbgjaaArr2
import Derived.Test.YtmdfipahbhbgjaaWWords
namespace Go.Fur
open Go Go.RowKit Go.Proofs.YtmdfipahbhbgjaaW.PrintWords
theorem rd_of_C {k : IntKind} {w : World} {A : Option Addr} {n : Nat} {l : List Int} (h : Kd.C (Kd.int k) w A n l) : Rd w A (l.map (Value.int k)) := fun hn => by
  obtain ⟨hl, _, hr⟩ := h
  have hl0 : l ≠ [] := fun e => hn (by rw [e]; rfl)
  have hpos : 0 < l.length := List.length_pos_iff.2 hl0
  obtain ⟨ad, rfl, hc⟩ := hr (by omega)
  have hcell : ∀ j x, l[j]? = some x → w.cell? (ad.add j) = some (.int k x) := fun j x hj => by
    obtain ⟨c, h1, h2, h3⟩ := hc j x hj
    have h2' : c = [.int k x] := h2
    subst h2'
    have h4 := h3 0 _ rfl
    have hs : (Kd.int k).sz = 1 := rfl
    rwa [hs, Nat.mul_one, Nat.add_zero] at h4
  have hsp : ad.spot = none := by
    obtain ⟨x, r, rfl⟩ := List.exists_cons_of_ne_nil hl0
    have h0 := hcell 0 x rfl
    unfold Addr.add at h0
    rw [if_pos rfl] at h0
    unfold World.cell? at h0
    cases hh : ad.spot with
    | none => rfl
    | some s =>
      rw [hh] at h0
      split at h0
      · simp at h0
      · cases h0
  obtain ⟨b, o, sp⟩ := ad
  simp only at hsp
  subst hsp
  refine ⟨b, o, rfl, fun j v hv => ?_⟩
  rw [List.getElem?_map] at hv
  cases hx : l[j]? with
  | none => rw [hx] at hv; cases hv
  | some x =>
    rw [hx] at hv
    injection hv with hv
    subst hv
    have := hcell j x hx
    rwa [Addr.add_lit] at this
theorem rdb_of_C {w : World} {A : Option Addr} {n : Nat} {l : List Int} (h : Kd.C (Kd.int .u8) w A n l) : Rd w A (bv l) := rd_of_C h
theorem C_max {k : IntKind} {w : World} {A : Option Addr} {n : Nat} {l : List Int} (h : Kd.C (Kd.int k) w A n l) : l.length ≤ 9223372036854775807 := by
  obtain ⟨hl, h2, _⟩ := h
  omega
theorem R_of_own {k : IntKind} {w : World} {e base n : Nat} {v : Value} {l : List Int} (h : Own w base e 1 v n (l.map (Value.int k))) : Kd.R (Kd.int k) e w base (fun _ => True) v l := by
  have hn : n = l.length := by have := h.len; simpa using this.symm
  subst hn
  exact ⟨fun _ _ => trivial, l.map (Value.int k), h, Kd.reps_scalar l⟩
theorem Rb_of_own {w : World} {e base n : Nat} {v : Value} {l : List Int} (h : Own w base e 1 v n (bv l)) : Kd.R (Kd.int .u8) e w base (fun _ => True) v l := R_of_own h
theorem below_of_fr {w w' : World} (h : Fr [] w w') : Below w.heap.size w w' := h.below (Nat.le_refl _) (by simp)
theorem fr_of_drawn {w w' : World} (h : Drawn0 w w') : Fr [] w w' := Fr.of_below h.below []
end Go.Fur
