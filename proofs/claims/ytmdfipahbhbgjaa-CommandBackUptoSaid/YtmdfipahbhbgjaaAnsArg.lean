/- An answer as an argument. -/
import Derived.Test.YtmdfipahbhbgjaaEntArg
import Derived.Test.YtmdfipahbhbgjaaAns
namespace Go.Fur
open Go Go.RowKit Go.Proofs
open Go.Proofs.Ytmdfipahbhbgjaa.Rows (uptoBulk uptoBulkAll)
set_option linter.unusedVariables false
def leaR := consR iR (consR iR (consR iR (consR (sliceR iR 8) (consR iR (consR iR (consR iR (consR boolR nilR)))))))
theorem leaB : SoundB Try.prog 124 leaR (fun x => x.2.2.2.1.xs.length + 1) := (structB Try.underlying124 (by kernel_rfl) (consFB (k := 1) rfl (by kernel_rfl) i1 (consFB (k := 1) rfl (by kernel_rfl) iB (consFB (k := 1) rfl (by kernel_rfl) iB (consFB (k := 1) rfl (by kernel_rfl) ticB (consFB (k := 1) rfl (by kernel_rfl) lB (consFB (k := 1) rfl (by kernel_rfl) lB (consFB (k := 1) rfl (by kernel_rfl) lB (consFB (k := 1) rfl (by kernel_rfl) (boolB Try.underlying4) (nilFB _)))))))))).mono (fun x => by omega)
theorem leasB : SoundB Try.prog 47 (sliceR leaR 80) (fun s => (s.xs.map fun x => x.2.2.2.1.xs.length + 1).sum) := sliceB (k := 8) Try.underlying47 (by kernel_rfl) (by decide) (by kernel_rfl) leaB
def ansR := consR iR (consR iR (consR iR (consR (sliceR iR 8) (consR (sliceR leaR 80) nilR))))
theorem eB : SoundB Try.prog 38 iR (fun _ => 0) := (intB Try.underlying38).mono (fun _ => Nat.zero_le _)
theorem ansB : SoundB Try.prog 49 ansR (fun x => x.2.2.2.1.xs.length + (x.2.2.2.2.1.xs.map fun x => x.2.2.2.1.xs.length + 1).sum) := (structB Try.underlying49 (by kernel_rfl) (consFB (k := 1) rfl (by kernel_rfl) eB (consFB (k := 1) rfl (by kernel_rfl) iB (consFB (k := 1) rfl (by kernel_rfl) iB (consFB (k := 1) rfl (by kernel_rfl) ticB (consFB (k := 1) rfl (by kernel_rfl) leasB (nilFB _))))))).mono (fun x => by omega)
theorem flat_map {α : Type} (f : α → List Value) : ∀ l : List α, flat id (l.map f) = flat f l
  | [] => rfl
  | y :: l => by rw [List.map_cons, flat_cons, flat_map f l, flat_cons]; rfl
theorem row_of {α τ : Type} {r : Rdr α} {bytes k : Nat} {EL : World → (Nat → Prop) → List Value → τ → Prop} (f : α → τ) {W : World} {s : SlV α} (hs : (sliceR r bytes).ok W s) (hk : ∀ x, (r.enc x).length = k) (hel : ∀ x ∈ s.xs, r.ok W x → EL W X0 (r.enc x) (f x)) :
    RowA EL k W X0 s.a (s.xs.map f) (s.xs.map r.enc) := by
  refine ⟨?_, by simp, fun i cs t h1 h2 => ?_⟩
  · rw [flat_map]
    exact Rd.apart hs.2.2.2.1 (fun _ _ _ _ h => h)
  · rw [List.getElem?_map] at h1 h2
    cases hx : s.xs[i]? with
    | none => rw [hx] at h1; cases h1
    | some x =>
      rw [hx] at h1 h2
      cases h1
      cases h2
      exact ⟨hk x, hel x (List.mem_of_getElem? hx) (hs.2.2.2.2.1 x (List.mem_of_getElem? hx))⟩
/-- A slice of whole numbers that came in. -/
theorem ints_arg {W : World} {s : SlV Int} (h : (sliceR iR 8).ok W s) : RdA W X0 s.a (iv s.xs) ∧ ∀ y ∈ s.xs, I64 y := by
  have h1 := h.2.2.2.1
  rw [flat_iv s.xs] at h1
  exact ⟨Rd.apart h1 (fun _ _ _ _ h => h), fun z hz => wf_I64 (h.2.2.2.2.1 z hz)⟩
def leaOf (x : Int × Int × Int × SlV Int × Int × Int × Int × Bool × Unit) : Lea := ⟨x.1, x.2.1, x.2.2.1, x.2.2.2.1.xs, x.2.2.2.2.1, x.2.2.2.2.2.1, x.2.2.2.2.2.2.1, x.2.2.2.2.2.2.2.1⟩
theorem leaR_len (x : _) : (leaR.enc x).length = 8 := rfl
theorem lea_arg {W : World} (x : _) (h : leaR.ok W x) : LeaAt W X0 (leaR.enc x) (leaOf x) ∧ (leaOf x).ok := by
  obtain ⟨x1, x2, x3, s, x5, x6, x7, x8, u⟩ := x
  obtain ⟨h1, h2, h3, h4, h5, h6, h7, _, _⟩ := h
  obtain ⟨r1, r2⟩ := ints_arg h4
  refine ⟨⟨s.a, s.cap, rfl, r1⟩, ?_, r2⟩
  simpa [leaOf] using ⟨wf_I64 h1, wf_I64 h2, wf_I64 h3, wf_I64 h5, wf_I64 h6, wf_I64 h7⟩
theorem leas_arg {W : World} {s : SlV _} (h : (sliceR leaR 80).ok W s) : RowA LeaAt 8 W X0 s.a (s.xs.map leaOf) (s.xs.map leaR.enc) ∧ ∀ t ∈ s.xs.map leaOf, t.ok := by
  refine ⟨row_of leaOf h leaR_len (fun x hx hk => (lea_arg x hk).1), fun t ht => ?_⟩
  obtain ⟨x, hx, rfl⟩ := List.mem_map.1 ht
  exact (lea_arg x (h.2.2.2.2.1 x hx)).2
/-- An answer that came in. -/
theorem ans_arg {W : World} {cs : List Value} {x : _} (he : cs = ansR.enc x) (hk : ansR.ok W x) : ∃ (t : Ans) (a : Option Addr) (c : Nat) (b : Option Addr) (d : Nat) (css : List (List Value)), cs = t.cells a c b d ∧ t.ok ∧ RdA W X0 a (iv t.cores) ∧ RowA LeaAt 8 W X0 b t.leases css ∧ t.bulk = x.2.2.2.1.xs.length + (x.2.2.2.2.1.xs.map fun x => x.2.2.2.1.xs.length + 1).sum := by
  obtain ⟨x1, x2, x3, s, q, u⟩ := x
  obtain ⟨h1, h2, h3, h4, h5, _⟩ := hk
  obtain ⟨r1, r2⟩ := ints_arg h4
  obtain ⟨r3, r4⟩ := leas_arg h5
  refine ⟨⟨x1, x2, x3, s.xs, q.xs.map leaOf⟩, s.a, s.cap, q.a, q.cap, _, ?_, ⟨?_, r2, r4⟩, r1, r3, ?_⟩
  · rw [he]
    show _ = [_, _, _, _, Value.slice q.a (q.xs.map leaOf).length q.cap]
    rw [List.length_map]
    rfl
  · simpa using ⟨wf_I64 h1, wf_I64 h2, wf_I64 h3⟩
  · unfold Ans.bulk
    simp only [List.map_map]
    rfl
end Go.Fur
