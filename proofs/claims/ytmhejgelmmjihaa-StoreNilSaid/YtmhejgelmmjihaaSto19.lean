/- furlonglaw15.awake answers true, and turns nothing that was there. -/
import Derived.Test.YtmhejgelmmjihaaSto18
namespace Go.Fur
open Go Go.RowKit Go.Proofs
set_option linter.unusedVariables false
set_option linter.unusedSimpArgs false
theorem rd_one (w : World) (t : TypeId) (x : Int) : Rd (w.alloc (.cells #[.int .u8 x] t)) (some ⟨w.heap.size, 0, none⟩) (bv [x]) := by
  have := (Blk.new w t [Value.int .u8 x]).rd0 1
  simpa [bv] using this
theorem byt1 {x : Int} (h : 0 ≤ x) (h2 : x ≤ 255) : Byt [x] := fun y hy => by
  rw [List.mem_singleton.1 hy]
  omega
theorem rdA_one (w : World) (t : TypeId) (X : Nat → Prop) (hX : ∀ k, X k → k < w.heap.size) (x : Int) : RdA (w.alloc (.cells #[.int .u8 x] t)) X (some ⟨w.heap.size, 0, none⟩) (bv [x]) := fun hn => by
  obtain ⟨b, o, h1, h2⟩ := rd_one w t x hn
  cases h1
  exact ⟨_, _, rfl, fun hx => by have := hX _ hx; omega, by simp, h2⟩
set_option maxRecDepth 100000 in
set_option maxHeartbeats 4000000 in
theorem awake_calls (w : World) : Calls Try.prog 8 #[] w fun e w' => e = .returned (.bool true) ∧ Fr [] w w' := by
  go_enter Try.func8, Try.ntmps8
  go_wp2_with fail
  refine (new_calls w 1000 (by omega) (by omega)).mono ?_
  rintro e w1 ⟨rfl, D1, F1⟩
  obtain ⟨p, hp⟩ : ∃ p, w.heap.size + 1 = p := ⟨_, rfl⟩
  obtain ⟨bb, hbb⟩ : ∃ bb, w.heap.size = bb := ⟨_, rfl⟩
  rw [hp] at D1 ⊢
  have HD1 := Lib.hid (show DiskAt w1 w.heap.size p w.heap.size (.slice none 0 0) (D.new 1000) from D1)
  have HF1 := Lib.hid F1
  clear D1 F1 hp
  dsimp only
  go_wp2_with fail
  refine (Sd.new HF1.out HD1.out (by omega) (by omega)).mono ?_
  rintro e w2 ⟨q, av, cs, ar, cr, rfl, S2, F2⟩
  have HS2 := Lib.hid S2
  clear S2 F2
  dsimp only
  go_wp2_with fail
  have z3 := World.size_alloc w2 (.cells #[.bool false, .slice av 0 cs, .slice ar 0 cr] 33)
  have F3 := (Fr.refl [] w2).alloc (.cells #[.bool false, .slice av 0 cs, .slice ar 0 cr] 33)
  generalize w2.alloc (.cells #[.bool false, .slice av 0 cs, .slice ar 0 cr] 33) = w3 at *
  rw [← z3]
  refine ((HS2.out.fr0 (F3.alloc (.cells #[.int .u8 5] 5))).append (by omega) (by omega) (by omega) _ 1 1 [5] rfl (rd_one w3 5 5) (byt1 (by decide) (by decide)) (by simp) (by simp [encs])).mono ?_
  rintro e w4 ⟨rfl, S4⟩
  have HS4 := Lib.hid S4
  clear S4 HS2 F3
  rw [z3]
  clear z3
  dsimp only
  go_wp2_with fail
  refine HS4.out.sync.mono ?_
  rintro e w5 ⟨rfl, S5⟩
  have HS5 := Lib.hid S5
  clear S5 HS4
  dsimp only
  go_wp2_with fail
  refine (Sd.check HS5.out ((Fr.refl [] w5).alloc (.cells #[.int .u8 7] 5)) (by omega) (by omega) (by omega) _ 1 1 [7] rfl (rdA_one w5 5 _ (fun k hk => hk.2) 7) (byt1 (by decide) (by decide)) (by simp) (by simp)).mono ?_
  rintro e w6 ⟨rfl, S6⟩
  have HS6 := Lib.hid S6
  clear S6 HS5
  dsimp only
  go_wp2_with fail
  refine ((HS6.out.fr0 ((Fr.refl [] w6).alloc (.cells #[.int .u8 6] 5))).append (by omega) (by omega) (by omega) _ 1 1 [6] rfl (rd_one w6 5 6) (byt1 (by decide) (by decide)) (by simp) (by simp [encs])).mono ?_
  rintro e w7 ⟨rfl, S7⟩
  have HS7 := Lib.hid S7
  clear S7 HS6
  dsimp only
  go_wp2_with fail
  refine HS7.out.sync.mono ?_
  rintro e w8 ⟨rfl, S8⟩
  have HS8 := Lib.hid S8
  clear S8 HS7
  dsimp only
  go_wp2_with fail
  refine (HS8.out.again (by omega) (by intro y hy; simp at hy; omega) (by intro x hx y hy; simp at hx; subst hx; simp at hy; omega)).mono ?_
  rintro e w9 ⟨q', vs, vr, tl, m1, m2, d', o, rfl, O9, os, ol, S9, F9, _⟩
  obtain ⟨as1, cs1, rfl, _, _, _⟩ := O9.sn.form
  obtain ⟨us, hus, hul, hua⟩ := O9.rs
  obtain ⟨ar1, cr1, rfl, _, _, hrr⟩ := hus.form
  have hsn := O9.sn
  rw [os] at hsn ⊢
  rw [ol] at hus hul hua ⊢
  have h1u : us.length = 1 := by rw [hul]; rfl
  obtain ⟨u0, rfl⟩ : ∃ u, us = [u] := by
    match us, h1u with
    | [u], _ => exact ⟨u, rfl⟩
  obtain ⟨hu0, _⟩ := hua 0 u0 [6] rfl rfl
  obtain ⟨a0, k0, rfl, _, _, hr0⟩ := hu0.form
  obtain ⟨gb, go, rfl, hrg⟩ := hrr (by simp)
  have HF9 := Lib.hid S9.fr
  have HSN := Lib.hid hsn
  have HR0 := Lib.hid hr0
  have HG0 := Lib.hid hrg
  clear O9 S9 F9 HS8 hsn hus hul hua hu0 hr0 hrg hrr
  dsimp only
  go_wp2_with fail
  have z10 := World.size_alloc w9 (.cells #[.bool true, .slice as1 1 cs1, .slice (some ⟨gb, go, none⟩) 1 cr1] 33)
  have F10 := (Fr.refl [] w9).alloc (.cells #[.bool true, .slice as1 1 cs1, .slice (some ⟨gb, go, none⟩) 1 cr1] 33)
  have B10 : Blk (w9.alloc (.cells #[.bool true, .slice as1 1 cs1, .slice (some ⟨gb, go, none⟩) 1 cr1] 33)) w9.heap.size 33 [.bool true, .slice as1 1 cs1, .slice (some ⟨gb, go, none⟩) 1 cr1] := Blk.new w9 33 _
  generalize w9.alloc (.cells #[.bool true, .slice as1 1 cs1, .slice (some ⟨gb, go, none⟩) 1 cr1] 33) = w10 at *
  rw [← z10]
  refine (bytes_calls _ as1 _ cs1 1 1 1 [7] [7] rfl rfl (byt1 (by decide) (by decide)) (byt1 (by decide) (by decide)) ((show Rd w9 as1 (bv [7]) by obtain ⟨a5, c5, h5, _, _, h6⟩ := HSN.out.form; cases h5; exact h6).fr0 (F10.alloc (.cells #[.int .u8 7] 5))) (rd_one w10 5 7)).mono ?_
  rintro e w11 ⟨rfl, rfl⟩
  rw [show decide (([7] : List Int) = [7]) = true from rfl]
  have F11 := F10.alloc (.cells #[.int .u8 7] 5)
  have g2 : (w10.alloc (.cells #[.int .u8 7] 5)).cell? ⟨w9.heap.size, 2, none⟩ = some (.slice (some ⟨gb, go, none⟩) 1 cr1) := (B10.fr ((Fr.refl [] w10).alloc (.cells #[.int .u8 7] 5)) (by simp)).cellAt rfl
  generalize w10.alloc (.cells #[.int .u8 7] 5) = w11 at *
  have c0 : w11.cell? ⟨gb, go, none⟩ = some (.slice a0 1 k0) := by
    have := rangeAt_fr HG0.out F11 (by simp) 0 _ rfl
    rwa [Nat.add_zero] at this
  have HF11 := Lib.hid F11
  clear F11 F10 B10 z10
  dsimp only
  go_wp2_with fail
  refine (bytes_calls _ a0 _ k0 1 1 1 [6] [6] rfl rfl (byt1 (by decide) (by decide)) (byt1 (by decide) (by decide)) (HR0.out.fr0 (HF11.out.alloc (.cells #[.int .u8 6] 5))) (rd_one w11 5 6)).mono ?_
  rintro e w12 ⟨rfl, rfl⟩
  rw [show decide (([6] : List Int) = [6]) = true from rfl]
  dsimp only
  go_wp2_with fail
  go_ret
  exact ⟨rfl, HF9.out.trans0 (HF11.out.alloc (.cells #[.int .u8 6] 5))⟩
end Go.Fur
