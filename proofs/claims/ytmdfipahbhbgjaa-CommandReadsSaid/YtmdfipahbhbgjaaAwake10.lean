/- awake of furlonglaw10. -/
import Derived.Test.YtmdfipahbhbgjaaSameE
namespace Go.Fur
open Go Go.RowKit Go.Proofs
set_option linter.unusedVariables false
set_option linter.unusedSimpArgs false
def tA : Ent := ⟨1, 2, 3, ⟨2, 7, 0, 0, 0, que0, nod0, tas0⟩⟩
def bA : List Int := [2, 4, 6, 2, 14, 0, 0, 0, 0, 0, 0, 0, 0, 0, 0, 0, 0, 0, 0, 0, 0, 0, 0, 0, 0, 0, 0]
theorem enc_tA : encE tA = (bA, 0) := by kernel_rfl
theorem dec_bA : decR bA ent0 (rE bA (0, 0)) = (tA, 0, 0) := by kernel_rfl
theorem tA_ok : tA.ok := by
  refine ⟨?_, ?_, ?_, ?_, ?_, ?_⟩ <;> intro x hx <;> simp [tA, que0, nod0, tas0, Que.ints, Nod.ints] at hx <;> (unfold I64; omega)
set_option maxRecDepth 100000 in
set_option maxHeartbeats 2000000 in
theorem awake_calls (w : World) : Calls Try.prog 10 #[] w (BoolE true w) := by
  have HC := Lib.hid (encodeE_calls (w := w) (base := w.heap.size) (Nat.le_refl _) tA none 0 (Rd.nil _ _) tA_ok (by decide))
  rw [enc_tA] at HC
  go_enter Try.func10, Try.ntmps10
  go_wp2_with fail
  refine HC.out.mono ?_
  rintro e w1 ⟨v, rfl, ho, hf⟩
  obtain ⟨g, cap, cur, rfl, hg, hb, q1, q2, q3, q4⟩ := Own.blk ho (by decide)
  have HC2 := Lib.hid (decodeE_calls (w := w1) (base := w1.heap.size) (a := some ⟨g, 0, none⟩) (n := 27) (c := cap) (l := bA) (Nat.le_refl _) ⟨rfl, q1, by decide, by unfold Byt bA; simp⟩ (by
    have := hb.rd0 27
    rw [show cur.take 27 = bv bA from by simpa [bA] using q4] at this
    exact this))
  rw [dec_bA] at HC2
  have hcell : ∀ (W : World), Fr [] w1 W → ∀ i x, (bv bA)[i]? = some x → W.cell? ⟨g, i, none⟩ = some x := fun W f i x hx => (hb.fr f (by simp)).cellAt (by
    rw [← show cur.take 27 = bv bA from by simpa [bA] using q4, List.getElem?_take] at hx
    split at hx
    · exact hx
    · cases hx)
  have HB := Lib.hid hcell
  have HF := Lib.hid hf
  have HQ := Lib.hid q1
  clear hcell hf hb q1 q2 q3 q4 ho hg
  dsimp only
  go_wp2_with fail
  refine HC2.out.mono ?_
  rintro e w2 ⟨v2, rfl, ⟨a2, k2, rfl, ho2⟩, hf2⟩
  have HF2 := Lib.hid hf2
  clear ho2 hf2
  dsimp only
  go_wp2_with (first
    | (refine wpList_storeB rfl 34 _ _ rfl w2.heap.size 0 (tA.cells a2 k2) (by rfl) (by rfl) 34 _ HB3.out (by rw [Ent.len, Ent.len]; omega) (entry_size2 tA a2 k2) (tA.one a2 k2) ?_; intro w4 B4 F4 S4; rw [splice_all _ _ (by rfl)] at B4; have FF : Fr [] w1 w4 := (HF2.out.trans0 HF3.out).trans F4 (fun k hk hlt => by have := HF2.out.size; rw [List.mem_singleton.1 hk] at hlt; omega); have d0 := HB.out w4 FF 0 _ rfl; have d1 := HB.out w4 FF 1 _ rfl; have d2 := HB.out w4 FF 2 _ rfl; have d3 := HB.out w4 FF 3 _ rfl; have d4 := HB.out w4 FF 4 _ rfl; have d5 : w4.cell? ⟨w2.heap.size, 4, none⟩ = some (.int .i64 7) := B4.cellAt rfl; have HFF := Lib.hid FF; clear B4 F4 S4 FF)
    | (refine wpList_allocZ rfl 34 rfl _ entry_zero2 ?_; intro w3 B3 F3 S3; have HB3 := Lib.hid B3; have HF3 := Lib.hid F3; have HS3 := Lib.hid S3; clear B3 F3 S3))
  go_ret
  exact ⟨rfl, HF.out.trans0 HFF.out⟩
end Go.Fur
