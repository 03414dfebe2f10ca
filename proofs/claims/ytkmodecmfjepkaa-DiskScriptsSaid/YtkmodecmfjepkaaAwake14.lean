/- furlonglaw14.awake answers true, and turns nothing that was there. -/
import Derived.Test.YtkmodecmfjepkaaDiskC
namespace Go.Fur
open Go Go.RowKit Go.Proofs
set_option linter.unusedVariables false
set_option linter.unusedSimpArgs false
theorem rd_one (w : World) (t : TypeId) (x : Int) : Rd (w.alloc (.cells #[.int .u8 x] t)) (some ⟨w.heap.size, 0, none⟩) (bv [x]) := by
  have := (Blk.new w t [Value.int .u8 x]).rd0 1
  simpa [bv] using this
set_option maxRecDepth 100000 in
set_option maxHeartbeats 2000000 in
theorem awake_calls (w : World) : Calls Try.prog 7 #[] w fun e w' => e = .returned (.bool true) ∧ Fr [] w w' := by
  go_enter Try.func7, Try.ntmps7
  go_wp2_with fail
  refine (new_calls w 4 (by omega) (by omega)).mono ?_
  rintro e w1 ⟨rfl, D1, F1⟩
  go_wp2_with fail
  have n1 : (List.replicate 4 (zeros 64))[0]? = some (zeros 64) := rfl
  have HN := Lib.hid n1
  clear n1
  refine (write_calls (D1.fr0 ((Fr.refl [] w1).alloc (.cells #[.int .u8 1] 5))) (by have := F1.size; simp; omega) 0 (zeros 64) HN.out (some ⟨w1.heap.size, 0, none⟩) 1 [1] (by decide) (rd_one w1 5 1) (by simp)).mono ?_
  rintro e w2 ⟨lv2, rfl, D2, F2, K2⟩
  have G2 : Fr [] w w2 := (F1.alloc (.cells #[.int .u8 1] 5)).trans F2 (fun k hk hlt => by have := D1.ge k hk; omega)
  have HK2 := Lib.hid K2
  clear K2
  go_wp2_with fail
  refine (sync_calls D2).mono ?_
  rintro e w3 ⟨rfl, D3, F3⟩
  have G3 : Fr [] w w3 := G2.trans F3 (fun k hk hlt => by have := D2.ge k (by simp at hk; simp [hk]); omega)
  go_wp2_with fail
  refine (write_calls (D3.fr0 ((Fr.refl [] w3).alloc (.cells #[.int .u8 2] 5))) (by have := G3.size; simp; omega) 0 (pad [1]) (by rfl) (some ⟨w3.heap.size, 0, none⟩) 1 [2] (by decide) (rd_one w3 5 2) (by simp)).mono ?_
  rintro e w4 ⟨lv4, rfl, D4, F4, K4⟩
  have G4 : Fr [] w w4 := (G3.alloc (.cells #[.int .u8 2] 5)).trans F4 (fun k hk hlt => by have := D3.ge k hk; omega)
  have HK4 := Lib.hid K4
  clear K4
  go_wp2_with fail
  refine (loose_calls D4).mono ?_
  rintro e w4' ⟨rfl, rfl⟩
  go_wp2_with fail
  refine (crash_calls D4 0 (by omega)).mono ?_
  rintro e w5 ⟨rfl, D5, F5⟩
  have G5 : Fr [] w w5 := G4.trans F5 (fun k hk hlt => by have := D4.ge k (by simp at hk; rcases hk with hk | hk <;> simp [hk]); omega)
  go_wp2_with fail
  refine (read_calls D5 0 (pad [1]) (by rfl)).mono ?_
  rintro e w6 ⟨g, cap, rfl, O6, F6⟩
  have G6 : Fr [] w w6 := G5.trans0 F6
  have D6 := D5.fr0 F6
  have hc : w6.cell? ⟨g, 0, none⟩ = some (.int .u8 1) := O6.cells (g := g) rfl 0 _ rfl
  clear O6 D1 D2 D3 D4 D5 F1 F2 F3 F4 F5 F6 G2 G3 G4 G5 HN HK2 HK4
  go_wp2_with fail
  refine (blocks_calls D6).mono ?_
  rintro e w6' ⟨rfl, rfl⟩
  have hl : (undo { now := ((List.replicate 4 (zeros 64)).set 0 (pad [1])).set 0 (pad [2]), loose := [] ++ [(0, pad [1], pad [2])] } (Int.toNat 0)).length = 4 := by
    rw [undo_length]
    rfl
  simp only [hl]
  go_wp2_with fail
  go_ret
  exact ⟨rfl, G6⟩
end Go.Fur
