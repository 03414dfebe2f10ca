/- A state as an argument. -/
import Derived.Test.YtmdfipahbhbgjaaAnsArg
import Derived.Test.YtmdfipahbhbgjaaSta
namespace Go.Fur
open Go Go.RowKit Go.Proofs
open Go.Proofs.Ytmdfipahbhbgjaa.Rows (uptoBulk uptoBulkAll)
set_option linter.unusedVariables false
def hunR := consR iR (consR iR nilR)
theorem hunB : SoundB Try.prog 119 hunR (fun _ => 1) := (structB Try.underlying119 (by kernel_rfl) (consFB (k := 1) rfl (by kernel_rfl) i1 (consFB (k := 1) rfl (by kernel_rfl) lB (nilFB _)))).mono (fun _ => by omega)
theorem que1 : SoundB Try.prog 25 queR (fun _ => 1) := (structB Try.underlying25 (by kernel_rfl) (consFB (k := 1) rfl (by kernel_rfl) i1 (consFB (k := 1) rfl (by kernel_rfl) iB (consFB (k := 1) rfl (by kernel_rfl) lB (consFB (k := 2) rfl (by kernel_rfl) vecB (consFB (k := 2) rfl (by kernel_rfl) vecB (nilFB _))))))).mono (fun _ => by omega)
theorem nod1 : SoundB Try.prog 27 nodR (fun _ => 1) := (structB Try.underlying27 (by kernel_rfl) (consFB (k := 1) rfl (by kernel_rfl) i1 (consFB (k := 1) rfl (by kernel_rfl) iB (consFB (k := 1) rfl (by kernel_rfl) lB (consFB (k := 1) rfl (by kernel_rfl) iB (consFB (k := 1) rfl (by kernel_rfl) iB (nilFB _))))))).mono (fun _ => by omega)
theorem tas1 : SoundB Try.prog 30 tasR (fun x => x.2.2.2.2.1.xs.length + 1) := (structB Try.underlying30 (by kernel_rfl) (consFB (k := 1) rfl (by kernel_rfl) i1 (consFB (k := 1) rfl (by kernel_rfl) iB (consFB (k := 2) rfl (by kernel_rfl) vecB (consFB (k := 1) rfl (by kernel_rfl) iB (consFB (k := 1) rfl (by kernel_rfl) ticB (consFB (k := 1) rfl (by kernel_rfl) iB (nilFB _)))))))).mono (fun x => by omega)
theorem quesB : SoundB Try.prog 53 (sliceR queR 56) (fun s => s.xs.length) := (sliceB (k := 7) Try.underlying53 (by kernel_rfl) (by decide) (by kernel_rfl) que1).mono (fun s => Nat.le_of_eq (sum_ones _).symm)
theorem nodsB : SoundB Try.prog 54 (sliceR nodR 40) (fun s => s.xs.length) := (sliceB (k := 5) Try.underlying54 (by kernel_rfl) (by decide) (by kernel_rfl) nod1).mono (fun s => Nat.le_of_eq (sum_ones _).symm)
theorem hunsB : SoundB Try.prog 56 (sliceR hunR 16) (fun s => s.xs.length) := (sliceB (k := 2) Try.underlying56 (by kernel_rfl) (by decide) (by kernel_rfl) hunB).mono (fun s => Nat.le_of_eq (sum_ones _).symm)
theorem tassB : SoundB Try.prog 55 (sliceR tasR 72) (fun s => (s.xs.map fun x => x.2.2.2.2.1.xs.length + 1).sum) := sliceB (k := 7) Try.underlying55 (by kernel_rfl) (by decide) (by kernel_rfl) tas1
def staR := consR iR (consR iR (consR iR (consR (sliceR queR 56) (consR (sliceR nodR 40) (consR (sliceR tasR 72) (consR (sliceR leaR 80) (consR (sliceR hunR 16) nilR)))))))
theorem staB : SoundB Try.prog 58 staR (fun x => x.2.2.2.1.xs.length + x.2.2.2.2.1.xs.length + (x.2.2.2.2.2.1.xs.map fun x => x.2.2.2.2.1.xs.length + 1).sum + (x.2.2.2.2.2.2.1.xs.map fun x => x.2.2.2.1.xs.length + 1).sum + x.2.2.2.2.2.2.2.1.xs.length) :=
  (structB Try.underlying58 (by kernel_rfl) (consFB (k := 1) rfl (by kernel_rfl) lB (consFB (k := 1) rfl (by kernel_rfl) lB (consFB (k := 1) rfl (by kernel_rfl) lB (consFB (k := 1) rfl (by kernel_rfl) quesB (consFB (k := 1) rfl (by kernel_rfl) nodsB (consFB (k := 1) rfl (by kernel_rfl) tassB (consFB (k := 1) rfl (by kernel_rfl) leasB (consFB (k := 1) rfl (by kernel_rfl) hunsB (nilFB _)))))))))).mono (fun x => by omega)
def queOf (x : Int × Int × Int × (Int × Int × Unit) × (Int × Int × Unit) × Unit) : Que := ⟨x.1, x.2.1, x.2.2.1, x.2.2.2.1.1, x.2.2.2.1.2.1, x.2.2.2.2.1.1, x.2.2.2.2.1.2.1⟩
def nodOf (x : Int × Int × Int × Int × Int × Unit) : Nod := ⟨x.1, x.2.1, x.2.2.1, x.2.2.2.1, x.2.2.2.2.1⟩
def tasOf (x : Int × Int × (Int × Int × Unit) × Int × SlV Int × Int × Unit) : Tas := ⟨x.1, x.2.1, x.2.2.1.1, x.2.2.1.2.1, x.2.2.2.1, x.2.2.2.2.1.xs, x.2.2.2.2.2.1⟩
def hunOf (x : Int × Int × Unit) : Hun := ⟨x.1, x.2.1⟩
theorem que_arg {W : World} (x : _) (h : queR.ok W x) : QueAt W X0 (queR.enc x) (queOf x) ∧ (queOf x).ok := by
  obtain ⟨q1, q2, q3, ⟨q4, q5, _⟩, ⟨q6, q7, _⟩, _⟩ := x
  obtain ⟨k1, k2, k3, ⟨k4, k5, _⟩, ⟨k6, k7, _⟩, _⟩ := h
  refine ⟨rfl, ?_⟩
  unfold Que.ok
  simpa [Que.ints, queOf] using ⟨wf_I64 k1, wf_I64 k2, wf_I64 k3, wf_I64 k4, wf_I64 k5, wf_I64 k6, wf_I64 k7⟩
theorem nod_arg {W : World} (x : _) (h : nodR.ok W x) : NodAt W X0 (nodR.enc x) (nodOf x) ∧ (nodOf x).ok := by
  obtain ⟨n1, n2, n3, n4, n5, _⟩ := x
  obtain ⟨m1, m2, m3, m4, m5, _⟩ := h
  refine ⟨rfl, ?_⟩
  unfold Nod.ok
  simpa [Nod.ints, nodOf] using ⟨wf_I64 m1, wf_I64 m2, wf_I64 m3, wf_I64 m4, wf_I64 m5⟩
theorem hun_arg {W : World} (x : _) (h : hunR.ok W x) : HuAt W X0 (hunR.enc x) (hunOf x) ∧ (hunOf x).ok := by
  obtain ⟨n1, n2, _⟩ := x
  obtain ⟨m1, m2, _⟩ := h
  refine ⟨rfl, ?_⟩
  unfold Hun.ok
  simpa [Hun.ints, hunOf] using ⟨wf_I64 m1, wf_I64 m2⟩
theorem tas_arg {W : World} (x : _) (h : tasR.ok W x) : TasAt W X0 (tasR.enc x) (tasOf x) ∧ (tasOf x).ok := by
  obtain ⟨t1, t2, ⟨t3, t4, _⟩, t5, s, t7, _⟩ := x
  obtain ⟨j1, j2, ⟨j3, j4, _⟩, j5, j6, j7, _⟩ := h
  obtain ⟨r1, r2⟩ := ints_arg j6
  refine ⟨⟨s.a, s.cap, rfl, r1⟩, ?_, r2⟩
  simpa [tasOf] using ⟨wf_I64 j1, wf_I64 j2, wf_I64 j3, wf_I64 j4, wf_I64 j5, wf_I64 j7⟩
theorem all_of {α τ : Type} {r : Rdr α} {bytes : Nat} {W : World} {s : SlV α} (hs : (sliceR r bytes).ok W s) (f : α → τ) {p : τ → Prop} (h : ∀ x, r.ok W x → p (f x)) : ∀ t ∈ s.xs.map f, p t := fun t ht => by
  obtain ⟨x, hx, rfl⟩ := List.mem_map.1 ht
  exact h x (hs.2.2.2.2.1 x hx)
/-- A state that came in. -/
theorem sta_arg {W : World} {cs : List Value} {x : _} (he : cs = staR.enc x) (hk : staR.ok W x) : ∃ (t : Sta) (s : StaP), cs = t.cells s ∧ t.ok ∧ StaAt W X0 t s ∧ t.bulk = x.2.2.2.1.xs.length + x.2.2.2.2.1.xs.length + (x.2.2.2.2.2.1.xs.map fun x => x.2.2.2.2.1.xs.length + 1).sum + (x.2.2.2.2.2.2.1.xs.map fun x => x.2.2.2.1.xs.length + 1).sum + x.2.2.2.2.2.2.2.1.xs.length := by
  obtain ⟨x1, x2, x3, q, n, t, l, h, u⟩ := x
  obtain ⟨h1, h2, h3, h4, h5, h6, h7, h8, _⟩ := hk
  refine ⟨⟨x1, x2, x3, q.xs.map queOf, n.xs.map nodOf, t.xs.map tasOf, l.xs.map leaOf, h.xs.map hunOf⟩, ⟨q.a, q.cap, n.a, n.cap, t.a, t.cap, l.a, l.cap, h.a, h.cap⟩, ?_, ⟨?_, ?_, ?_, ?_, ?_, ?_⟩, ⟨?_, ?_, ?_, ?_, ?_⟩, ?_⟩
  · rw [he]
    show _ = [_, _, _, Value.slice q.a (q.xs.map queOf).length q.cap, Value.slice n.a (n.xs.map nodOf).length n.cap, Value.slice t.a (t.xs.map tasOf).length t.cap, Value.slice l.a (l.xs.map leaOf).length l.cap, Value.slice h.a (h.xs.map hunOf).length h.cap]
    simp only [List.length_map]
    rfl
  · simpa using ⟨wf_I64 h1, wf_I64 h2, wf_I64 h3⟩
  · exact all_of h4 queOf (fun x hx => (que_arg x hx).2)
  · exact all_of h5 nodOf (fun x hx => (nod_arg x hx).2)
  · exact all_of h6 tasOf (fun x hx => (tas_arg x hx).2)
  · exact (leas_arg h7).2
  · exact all_of h8 hunOf (fun x hx => (hun_arg x hx).2)
  · exact ⟨_, row_of queOf h4 (fun _ => rfl) (fun x _ hx => (que_arg x hx).1)⟩
  · exact ⟨_, row_of nodOf h5 (fun _ => rfl) (fun x _ hx => (nod_arg x hx).1)⟩
  · exact ⟨_, row_of tasOf h6 (fun _ => rfl) (fun x _ hx => (tas_arg x hx).1)⟩
  · exact ⟨_, (leas_arg h7).1⟩
  · exact ⟨_, row_of hunOf h8 (fun _ => rfl) (fun x _ hx => (hun_arg x hx).1)⟩
  · unfold Sta.bulk
    simp only [List.map_map, List.length_map]
    rfl
end Go.Fur
