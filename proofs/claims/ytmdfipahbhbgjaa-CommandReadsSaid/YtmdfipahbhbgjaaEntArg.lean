/- An entry as an argument. -/
import Derived.Test.YtmdfipahbhbgjaaOpenB
import Derived.Test.YtmdfipahbhbgjaaCmdE
namespace Go.Fur
open Go Go.RowKit Go.Proofs
open Go.Proofs.Ytmdfipahbhbgjaa.Rows (uptoBulk uptoBulkAll)
set_option linter.unusedVariables false
abbrev iR : Rdr Int := intR .i64
def vecR := consR iR (consR iR nilR)
def queR := consR iR (consR iR (consR iR (consR vecR (consR vecR nilR))))
def nodR := consR iR (consR iR (consR iR (consR iR (consR iR nilR))))
def tasR := consR iR (consR iR (consR vecR (consR iR (consR (sliceR iR 8) (consR iR nilR)))))
def cmdR := consR iR (consR iR (consR iR (consR iR (consR iR (consR queR (consR nodR (consR tasR nilR)))))))
def entR := consR iR (consR iR (consR iR (consR cmdR nilR)))
theorem SoundB.mono {α : Type} {P : Program} {t : TypeId} {r : Rdr α} {m m' : α → Nat} (h : SoundB P t r m) (hm : ∀ a, m' a ≤ m a) : SoundB P t r m' := fun H encH W fuel cs x hx hw => by
  obtain ⟨a, h1, h2, h3⟩ := h H encH W fuel cs x hx hw
  exact ⟨a, h1, h2, Nat.le_trans (hm a) h3⟩
theorem sum_ones {α : Type} : ∀ l : List α, (l.map (fun _ => 1)).sum = l.length
  | [] => rfl
  | _ :: l => by rw [List.map_cons, List.sum_cons, sum_ones l, List.length_cons, Nat.add_comm]
theorem flat_iv : ∀ l : List Int, flat iR.enc l = iv l
  | [] => rfl
  | y :: l => by rw [flat_cons, flat_iv l]; rfl
theorem iB : SoundB Try.prog 3 iR (fun _ => 0) := (intB Try.underlying3).mono (fun _ => Nat.zero_le _)
theorem i1 : SoundB Try.prog 3 iR (fun _ => 1) := intB Try.underlying3
theorem lB : SoundB Try.prog 2 iR (fun _ => 0) := (intB Try.underlying2).mono (fun _ => Nat.zero_le _)
theorem vecB : SoundB Try.prog 23 vecR (fun _ => 0) := (structB Try.underlying23 (by kernel_rfl) (consFB (k := 1) rfl (by kernel_rfl) lB (consFB (k := 1) rfl (by kernel_rfl) lB (nilFB _)))).mono (fun _ => Nat.zero_le _)
theorem queB : SoundB Try.prog 25 queR (fun _ => 0) := (structB Try.underlying25 (by kernel_rfl) (consFB (k := 1) rfl (by kernel_rfl) iB (consFB (k := 1) rfl (by kernel_rfl) iB (consFB (k := 1) rfl (by kernel_rfl) lB (consFB (k := 2) rfl (by kernel_rfl) vecB (consFB (k := 2) rfl (by kernel_rfl) vecB (nilFB _))))))).mono (fun _ => Nat.zero_le _)
theorem nodB : SoundB Try.prog 27 nodR (fun _ => 0) := (structB Try.underlying27 (by kernel_rfl) (consFB (k := 1) rfl (by kernel_rfl) iB (consFB (k := 1) rfl (by kernel_rfl) iB (consFB (k := 1) rfl (by kernel_rfl) lB (consFB (k := 1) rfl (by kernel_rfl) iB (consFB (k := 1) rfl (by kernel_rfl) iB (nilFB _))))))).mono (fun _ => Nat.zero_le _)
theorem ticB : SoundB Try.prog 28 (sliceR iR 8) (fun s => s.xs.length) := (sliceB (k := 1) Try.underlying28 (by kernel_rfl) (by decide) (by kernel_rfl) i1).mono (fun s => Nat.le_of_eq (sum_ones _).symm)
theorem tasB : SoundB Try.prog 30 tasR (fun x => x.2.2.2.2.1.xs.length) := (structB Try.underlying30 (by kernel_rfl) (consFB (k := 1) rfl (by kernel_rfl) iB (consFB (k := 1) rfl (by kernel_rfl) iB (consFB (k := 2) rfl (by kernel_rfl) vecB (consFB (k := 1) rfl (by kernel_rfl) iB (consFB (k := 1) rfl (by kernel_rfl) ticB (consFB (k := 1) rfl (by kernel_rfl) iB (nilFB _)))))))).mono (fun x => by omega)
theorem cmdB : SoundB Try.prog 32 cmdR (fun x => x.2.2.2.2.2.2.2.1.2.2.2.2.1.xs.length) := (structB Try.underlying32 (by kernel_rfl) (consFB (k := 1) rfl (by kernel_rfl) iB (consFB (k := 1) rfl (by kernel_rfl) iB (consFB (k := 1) rfl (by kernel_rfl) iB (consFB (k := 1) rfl (by kernel_rfl) iB (consFB (k := 1) rfl (by kernel_rfl) lB (consFB (k := 7) rfl (by kernel_rfl) queB (consFB (k := 5) rfl (by kernel_rfl) nodB (consFB (k := 7) rfl (by kernel_rfl) tasB (nilFB _)))))))))).mono (fun x => by omega)
theorem entB : SoundB Try.prog 34 entR (fun x => x.2.2.2.1.2.2.2.2.2.2.2.1.2.2.2.2.1.xs.length) := (structB Try.underlying34 (by kernel_rfl) (consFB (k := 1) rfl (by kernel_rfl) lB (consFB (k := 1) rfl (by kernel_rfl) iB (consFB (k := 1) rfl (by kernel_rfl) iB (consFB (k := 24) rfl (by kernel_rfl) cmdB (nilFB _)))))).mono (fun x => by omega)
theorem wf_I64 {x : Int} (h : (Lit.int .i64 x).wf = true) : I64 x := by
  have h2 := h
  simp [Lit.wf] at h2
  have e : IntKind.i64.min = -9223372036854775808 := rfl
  rw [e] at h2
  unfold I64
  omega
/-- An entry that came in. -/
theorem ent_arg {W : World} {cs : List Value} {x : _} (he : cs = entR.enc x) (hk : entR.ok W x) : ∃ (t : Ent) (a : Option Addr) (c : Nat), cs = t.cells a c ∧ t.ok ∧ Rd W a (iv t.cmd.task.tickets) ∧ t.cmd.task.tickets.length = x.2.2.2.1.2.2.2.2.2.2.2.1.2.2.2.2.1.xs.length := by
  obtain ⟨x1, x2, x3, ⟨x4, x5, x6, x7, x8, ⟨q1, q2, q3, ⟨q4, q5, _⟩, ⟨q6, q7, _⟩, _⟩, ⟨n1, n2, n3, n4, n5, _⟩, ⟨t1, t2, ⟨t3, t4, _⟩, t5, s, t7, _⟩, _⟩, _⟩ := x
  obtain ⟨h1, h2, h3, ⟨h4, h5, h6, h7, h8, ⟨k1, k2, k3, ⟨k4, k5, _⟩, ⟨k6, k7, _⟩, _⟩, ⟨m1, m2, m3, m4, m5, _⟩, ⟨j1, j2, ⟨j3, j4, _⟩, j5, j6, j7, _⟩, _⟩, _⟩ := hk
  refine ⟨⟨x1, x2, x3, ⟨x4, x5, x6, x7, x8, ⟨q1, q2, q3, q4, q5, q6, q7⟩, ⟨n1, n2, n3, n4, n5⟩, ⟨t1, t2, t3, t4, t5, s.xs, t7⟩⟩⟩, s.a, s.cap, by rw [he]; rfl, ?_, ?_, rfl⟩
  · refine ⟨?_, ?_, ?_, ?_, ?_, ?_⟩
    · simpa using ⟨wf_I64 h1, wf_I64 h2, wf_I64 h3⟩
    · simpa using ⟨wf_I64 h4, wf_I64 h5, wf_I64 h6, wf_I64 h7, wf_I64 h8⟩
    · unfold Que.ok; simpa [Que.ints] using ⟨wf_I64 k1, wf_I64 k2, wf_I64 k3, wf_I64 k4, wf_I64 k5, wf_I64 k6, wf_I64 k7⟩
    · unfold Nod.ok; simpa [Nod.ints] using ⟨wf_I64 m1, wf_I64 m2, wf_I64 m3, wf_I64 m4, wf_I64 m5⟩
    · simpa using ⟨wf_I64 j1, wf_I64 j2, wf_I64 j3, wf_I64 j4, wf_I64 j5, wf_I64 j7⟩
    · exact fun z hz => wf_I64 (j6.2.2.2.2.1 z hz)
  · have := j6.2.2.2.1
    have e := flat_iv s.xs
    rwa [e] at this
end Go.Fur
