/- Len, Safe, Sync of a store, and of none: contracts. -/
import Derived.Test.YtmhejgelmmjihaaSto1
import Derived.Test.YtmhejgelmmjihaaArr2
namespace Go.Fur
open Go Go.RowKit Go.Proofs
set_option linter.unusedVariables false
set_option linter.unusedSimpArgs false
theorem len_calls {w : World} {p q : Nat} {tail : Value} {gen life at_ count safe : Int} (hq : Blk w q 67 (sto p gen life tail at_ count safe)) :
    Calls Try.prog 15 #[.pointer (some ⟨q, 0, none⟩)] w fun e w' => e = .returned (.int .i64 count) ∧ w = w' := by
  have c5 : w.cell? ⟨q, 5, none⟩ = some (.int .i64 count) := hq.cellAt rfl
  clear hq
  go_enter Try.func15, Try.ntmps15
  go_wp2_with fail
  go_ret
  exact ⟨rfl, rfl⟩
theorem safe_calls {w : World} {p q : Nat} {tail : Value} {gen life at_ count safe : Int} (hq : Blk w q 67 (sto p gen life tail at_ count safe)) :
    Calls Try.prog 16 #[.pointer (some ⟨q, 0, none⟩)] w fun e w' => e = .returned (.int .i64 safe) ∧ w = w' := by
  have c6 : w.cell? ⟨q, 6, none⟩ = some (.int .i64 safe) := hq.cellAt rfl
  clear hq
  go_enter Try.func16, Try.ntmps16
  go_wp2_with fail
  go_ret
  exact ⟨rfl, rfl⟩
theorem lenN_calls (w : World) : Calls Try.prog 15 #[.pointer none] w fun e w' => e = .returned (.int .i64 0) ∧ w = w' := by
  go_enter Try.func15, Try.ntmps15
  go_wp2_with fail
  go_ret
  exact ⟨rfl, rfl⟩
theorem safeN_calls (w : World) : Calls Try.prog 16 #[.pointer none] w fun e w' => e = .returned (.int .i64 0) ∧ w = w' := by
  go_enter Try.func16, Try.ntmps16
  go_wp2_with fail
  go_ret
  exact ⟨rfl, rfl⟩
theorem syncN_calls (w : World) : Calls Try.prog 14 #[.pointer none] w fun e w' => e = .returned (.int .i64 17) ∧ w = w' := by
  go_enter Try.func14, Try.ntmps14
  go_wp2_with fail
  go_ret
  exact ⟨rfl, rfl⟩
theorem appendN_calls (w : World) (v : Value) : Calls Try.prog 12 #[.pointer none, v] w fun e w' => e = .returned (.int .i64 17) ∧ w = w' := by
  go_enter Try.func12, Try.ntmps12
  go_wp2_with fail
  go_ret
  exact ⟨rfl, rfl⟩
theorem checkpointN_calls (w : World) (v : Value) : Calls Try.prog 13 #[.pointer none, v] w fun e w' => e = .returned (.int .i64 17) ∧ w = w' := by
  go_enter Try.func13, Try.ntmps13
  go_wp2_with fail
  go_ret
  exact ⟨rfl, rfl⟩
theorem syncS_calls {w : World} {base p bb q : Nat} {lv tail : Value} {d : D} {gen life at_ count safe : Int} (h : DiskAt w base p bb lv d) (hq : Blk w q 67 (sto p gen life tail at_ count safe)) :
    Calls Try.prog 14 #[.pointer (some ⟨q, 0, none⟩)] w fun e w' => e = .returned (.int .i64 0) ∧ DiskAt w' base p bb (.slice none 0 0) { d with loose := [] } ∧ Blk w' q 67 (sto p gen life tail at_ count count) ∧ Fr [p, q] w w' := by
  have c0 : w.cell? ⟨q, 0, none⟩ = some (.pointer (some ⟨p, 0, none⟩)) := hq.cellAt rfl
  have HS := Lib.hid (sync_calls h)
  have hqp : q ≠ p := hq.ne h.hp (by decide)
  have hqb : q ≠ bb := hq.ne h.hb (by decide)
  have HQ := Lib.hid hq
  clear h hq
  go_enter Try.func14, Try.ntmps14
  go_wp2_with fail
  refine HS.out.mono ?_
  rintro e w1 ⟨rfl, D1, F1⟩
  have HD1 := Lib.hid D1
  have HF1 := Lib.hid F1
  have hq1 := HQ.out.fr F1 (by simpa using hqp)
  have c5 : w1.cell? ⟨q, 5, none⟩ = some (.int .i64 count) := hq1.cellAt rfl
  have HQ1 := Lib.hid hq1
  clear D1 F1 hq1 c0
  dsimp only
  go_wp2_with (refine wpList_store1 rfl 3 _ _ rfl q 6 (.int .i64 count) (by rfl) (by rfl) rfl 67 _ HQ1.out (by simp [sto]) (by kernel_rfl) rfl ?_; intro w2 B2 F2 S2; have HB2 := Lib.hid (show Blk w2 q 67 (sto p gen life tail at_ count count) from B2); have HF2 := Lib.hid F2; clear B2 F2 S2)
  go_ret
  exact ⟨rfl, HD1.out.fr HF2.out (by simpa using hqp.symm) (by simpa using hqb.symm) (by simp [ob, Value.ownBlock]), HB2.out, (HF1.out.mono (fun k hk _ => by simp at hk; simp [hk])).trans HF2.out (fun k hk _ => by simp at hk; simp [hk])⟩
end Go.Fur
