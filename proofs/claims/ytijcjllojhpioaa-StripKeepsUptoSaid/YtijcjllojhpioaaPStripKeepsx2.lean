-- printed by gprint.py (a program of this session over the kit's print) out of the translation
import Derived.Test.YtijcjllojhpioaaPStripKeepsx0
import Derived.Test.YtijcjllojhpioaaPStripKeepsx1
namespace Go.Proofs.Ytijcjllojhpioaa.PStripKeeps
open Go.RowKit Go.Proofs.YtijcjllojhpioaaW.PrintWords Go.Proofs.YtijcjllojhpioaaW.PrintLast Go.Proofs.YtijcjllojhpioaaW.PrintMore
attribute [local go_sem] max2_int min2_int max_two min_two max_three min_three max_four min_four   -- for this text's walks alone
set_option linter.unusedVariables false
set_option linter.unusedSimpArgs false

/-! ### furlonglaw03_StripKeeps: function 8 -/
mutual
def furlonglaw03_StripKeeps.j0 : Nat → List Int → List Int → List Int → List Int → List Int → List Int → List Int → Bool → Option (Bool)
 | 0, _, _, _, _, _, _, _, _ => none
 | k + 1, x0, x1, x7, x8, x9, x10, x11, x73 => if x73 = true then (some false) else (furlonglaw03_StripKeeps.l0 k x0 x1 x7 x8 x9 x10 x11 (x9.length : Int) 0)
def furlonglaw03_StripKeeps.l0 : Nat → List Int → List Int → List Int → List Int → List Int → List Int → List Int → Int → Int → Option (Bool)
 | 0, _, _, _, _, _, _, _, _, _ => none
 | k + 1, x0, x1, x7, x8, x9, x10, x11, x75, x76 => if x76 < x75 then (if 0 ≤ x76 then (if x76 < (x9.length : Int) then (furlonglaw03_StripKeeps.l0 k x0 x1 x7 x8 (x9.set (x76 : Int).toNat (Go.bits .xor .u8 (rd x9 x76) 1)) x10 x11 x75 (wrap64 (x76 + 1))) else (none)) else (none)) else (furlonglaw03_StripKeeps.l1 k x0 x1 x7 x8 x10 x11 (x11.length : Int) 0)
def furlonglaw03_StripKeeps.l1 : Nat → List Int → List Int → List Int → List Int → List Int → List Int → Int → Int → Option (Bool)
 | 0, _, _, _, _, _, _, _, _ => none
 | k + 1, x0, x1, x7, x8, x10, x11, x87, x88 => if x88 < x87 then (if 0 ≤ x88 then (if x88 < (x11.length : Int) then (furlonglaw03_StripKeeps.l1 k x0 x1 x7 x8 x10 (x11.set (x88 : Int).toNat (Go.bits .xor .u8 (rd x11 x88) 255)) x87 (wrap64 (x88 + 1))) else (none)) else (none)) else (if 0 ≤ (x0.length : Int) then (if (x0.length : Int) ≤ (x7.length : Int) then ((furlongref01_Bytes.f (x7.take ((x0.length : Int) : Int).toNat) x0).bind fun t190 => (if t190 = true then ((furlongref01_Bytes.f x8 x1).bind fun t191 => (if t191 = true then ((furlongref03_Text.f k x1).bind fun t192 => ((furlongref03_After.f x0 t192).bind fun t195 => ((furlongref01_Bytes.f x10 t195).bind fun t198 => (if t198 = true then (furlonglaw03_StripKeeps.j3 k x0 x1 x7 x8 x10 (decide ((x1.length : Int) > 60000))) else (furlonglaw03_StripKeeps.j3 k x0 x1 x7 x8 x10 true))))) else (furlonglaw03_StripKeeps.j3 k x0 x1 x7 x8 x10 true))) else (furlonglaw03_StripKeeps.j3 k x0 x1 x7 x8 x10 true))) else (none)) else (none))
def furlonglaw03_StripKeeps.j3 : Nat → List Int → List Int → List Int → List Int → List Int → Bool → Option (Bool)
 | 0, _, _, _, _, _, _ => none
 | k + 1, x0, x1, x7, x8, x10, x124 => if x124 = true then (if (x1.length : Int) > 60000 then (if 0 ≤ (x0.length : Int) then (if (x0.length : Int) ≤ (x7.length : Int) then ((furlongref01_Bytes.f (x7.take ((x0.length : Int) : Int).toNat) x0).bind fun t203 => (if t203 = true then ((furlongref01_Bytes.f x8 x1).bind fun t204 => (some t204)) else (some false))) else (none)) else (none)) else (some false)) else ((strip_Guard.f x8).bind fun bt205 => ((strip_Mend.f bt205.1).bind fun bt209 => ((strip_ReadBytes.f x10 (x0.length : Int)).bind fun bt214 => (furlonglaw03_StripKeeps.l2 k x1 x10 bt205.1 bt209.1 bt209.2.2 bt214.1 bt214.2.2 (bt205.1.length : Int) 0))))
def furlonglaw03_StripKeeps.l2 : Nat → List Int → List Int → List Int → List Int → Int → List Int → Int → Int → Int → Option (Bool)
 | 0, _, _, _, _, _, _, _, _, _ => none
 | k + 1, x1, x10, x15, x17, x19, x20, x22, x161, x162 => if x162 < x161 then (if 0 ≤ x162 then (if x162 < (x15.length : Int) then (furlonglaw03_StripKeeps.l2 k x1 x10 (x15.set (x162 : Int).toNat (Go.bits .xor .u8 (rd x15 x162) 255)) x17 x19 x20 x22 x161 (wrap64 (x162 + 1))) else (none)) else (none)) else (furlonglaw03_StripKeeps.l3 k x1 x10 x17 x19 x20 x22 (x10.length : Int) 0)
def furlonglaw03_StripKeeps.l3 : Nat → List Int → List Int → List Int → Int → List Int → Int → Int → Int → Option (Bool)
 | 0, _, _, _, _, _, _, _, _ => none
 | k + 1, x1, x10, x17, x19, x20, x22, x173, x174 => if x174 < x173 then (if 0 ≤ x174 then (if x174 < (x10.length : Int) then (furlonglaw03_StripKeeps.l3 k x1 (x10.set (x174 : Int).toNat (Go.bits .xor .u8 (rd x10 x174) 255)) x17 x19 x20 x22 x173 (wrap64 (x174 + 1))) else (none)) else (none)) else (if x19 = 0 then (if x22 = 0 then ((furlongref01_Bytes.f x17 x1).bind fun t223 => (if t223 = true then ((furlongref01_Bytes.f x20 x1).bind fun t224 => (some t224)) else (some false))) else (some false)) else (some false))
end
def furlonglaw03_StripKeeps.f (k : Nat) (l0 : List Int) (l1 : List Int) (a2 : Int) : Option (Bool) := (furlonglaw03_awake.f).bind fun t131 => (if t131 = true then ((some (([] : List Int) : List Int)).bind fun y132 => (if y132.length + l0.length < 140737488355328 then ((some (y132 ++ l0 : List Int)).bind fun y135 => ((some (([71, 72] : List Int) : List Int)).bind fun y138 => (if y135.length + y138.length < 140737488355328 then ((some (y135 ++ y138 : List Int)).bind fun y141 => ((some (([] : List Int) : List Int)).bind fun y144 => (if y144.length + l1.length < 140737488355328 then ((some (y144 ++ l1 : List Int)).bind fun y147 => (if 0 ≤ (l0.length : Int) then (if (l0.length : Int) ≤ (y141.length : Int) then ((strip_Lay.f (y141.take ((l0.length : Int) : Int).toNat) a2).bind fun t154 => ((strip_LayBytes.f (y141.take ((l0.length : Int) : Int).toNat) y147).bind fun t161 => ((strip_Guard.f y147).bind fun bt164 => ((some (([] : List Int) : List Int)).bind fun y168 => (if y168.length + l0.length < 140737488355328 then ((some (y168 ++ l0 : List Int)).bind fun y171 => ((some (([71, 72] : List Int) : List Int)).bind fun y174 => (if y171.length + y174.length < 140737488355328 then ((furlongref01_Bytes.f y141 (y171 ++ y174)).bind fun t180 => (if t180 = true then ((furlongref01_Bytes.f y147 l1).bind fun t181 => (if t181 = true then (furlonglaw03_StripKeeps.j0 k l0 l1 y141 y147 t154 t161 bt164.1 ((bt164.2 == 0) != (decide ((l1.length : Int) ≤ 60000)))) else (furlonglaw03_StripKeeps.j0 k l0 l1 y141 y147 t154 t161 bt164.1 true))) else (furlonglaw03_StripKeeps.j0 k l0 l1 y141 y147 t154 t161 bt164.1 true))) else (none)))) else (none)))))) else (none)) else (none))) else (none)))) else (none)))) else (none))) else (some false))
theorem furlonglaw03_StripKeeps.mono_l : ∀ k, (∀ y0 y1 y2 y3 y4 y5 y6 y7, LeO (furlonglaw03_StripKeeps.j0 k y0 y1 y2 y3 y4 y5 y6 y7) (furlonglaw03_StripKeeps.j0 (k + 1) y0 y1 y2 y3 y4 y5 y6 y7)) ∧ (∀ y0 y1 y2 y3 y4 y5 y6 y7 y8, LeO (furlonglaw03_StripKeeps.l0 k y0 y1 y2 y3 y4 y5 y6 y7 y8) (furlonglaw03_StripKeeps.l0 (k + 1) y0 y1 y2 y3 y4 y5 y6 y7 y8)) ∧ (∀ y0 y1 y2 y3 y4 y5 y6 y7, LeO (furlonglaw03_StripKeeps.l1 k y0 y1 y2 y3 y4 y5 y6 y7) (furlonglaw03_StripKeeps.l1 (k + 1) y0 y1 y2 y3 y4 y5 y6 y7)) ∧ (∀ y0 y1 y2 y3 y4 y5, LeO (furlonglaw03_StripKeeps.j3 k y0 y1 y2 y3 y4 y5) (furlonglaw03_StripKeeps.j3 (k + 1) y0 y1 y2 y3 y4 y5)) ∧ (∀ y0 y1 y2 y3 y4 y5 y6 y7 y8, LeO (furlonglaw03_StripKeeps.l2 k y0 y1 y2 y3 y4 y5 y6 y7 y8) (furlonglaw03_StripKeeps.l2 (k + 1) y0 y1 y2 y3 y4 y5 y6 y7 y8)) ∧ (∀ y0 y1 y2 y3 y4 y5 y6 y7, LeO (furlonglaw03_StripKeeps.l3 k y0 y1 y2 y3 y4 y5 y6 y7) (furlonglaw03_StripKeeps.l3 (k + 1) y0 y1 y2 y3 y4 y5 y6 y7))
 | 0 => ⟨fun _ _ _ _ _ _ _ _ r h => by simp [furlonglaw03_StripKeeps.j0] at h, fun _ _ _ _ _ _ _ _ _ r h => by simp [furlonglaw03_StripKeeps.l0] at h, fun _ _ _ _ _ _ _ _ r h => by simp [furlonglaw03_StripKeeps.l1] at h, fun _ _ _ _ _ _ r h => by simp [furlonglaw03_StripKeeps.j3] at h, fun _ _ _ _ _ _ _ _ _ r h => by simp [furlonglaw03_StripKeeps.l2] at h, fun _ _ _ _ _ _ _ _ r h => by simp [furlonglaw03_StripKeeps.l3] at h⟩
 | k + 1 => by
  obtain ⟨ih0, ih1, ih2, ih3, ih4, ih5⟩ := furlonglaw03_StripKeeps.mono_l k
  refine ⟨?_, ?_, ?_, ?_, ?_, ?_⟩
  ·intro y0 y1 y2 y3 y4 y5 y6 y7
   unfold furlonglaw03_StripKeeps.j0
   repeat' first
   | (with_reducible exact ih0 _ _ _ _ _ _ _ _)
   | (with_reducible exact ih1 _ _ _ _ _ _ _ _ _)
   | (with_reducible exact ih2 _ _ _ _ _ _ _ _)
   | (with_reducible exact ih3 _ _ _ _ _ _)
   | (with_reducible exact ih4 _ _ _ _ _ _ _ _ _)
   | (with_reducible exact ih5 _ _ _ _ _ _ _ _)
   | (with_reducible exact furlongref03_Text.mono _ _)
   | (with_reducible exact LeO.refl _)
   | (with_reducible exact LeO.none _)
   | (with_reducible refine LeO.ite ?_ ?_)
   | (with_reducible refine LeO.bind ?_ (fun _ => ?_))
   | exact ih0 _ _ _ _ _ _ _ _
   | exact ih1 _ _ _ _ _ _ _ _ _
   | exact ih2 _ _ _ _ _ _ _ _
   | exact ih3 _ _ _ _ _ _
   | exact ih4 _ _ _ _ _ _ _ _ _
   | exact ih5 _ _ _ _ _ _ _ _
   | exact furlongref03_Text.mono _ _
   | exact LeO.none _
   | refine LeO.ite ?_ ?_
   | refine LeO.bind ?_ (fun _ => ?_)
  ·intro y0 y1 y2 y3 y4 y5 y6 y7 y8
   unfold furlonglaw03_StripKeeps.l0
   repeat' first
   | (with_reducible exact ih0 _ _ _ _ _ _ _ _)
   | (with_reducible exact ih1 _ _ _ _ _ _ _ _ _)
   | (with_reducible exact ih2 _ _ _ _ _ _ _ _)
   | (with_reducible exact ih3 _ _ _ _ _ _)
   | (with_reducible exact ih4 _ _ _ _ _ _ _ _ _)
   | (with_reducible exact ih5 _ _ _ _ _ _ _ _)
   | (with_reducible exact furlongref03_Text.mono _ _)
   | (with_reducible exact LeO.refl _)
   | (with_reducible exact LeO.none _)
   | (with_reducible refine LeO.ite ?_ ?_)
   | (with_reducible refine LeO.bind ?_ (fun _ => ?_))
   | exact ih0 _ _ _ _ _ _ _ _
   | exact ih1 _ _ _ _ _ _ _ _ _
   | exact ih2 _ _ _ _ _ _ _ _
   | exact ih3 _ _ _ _ _ _
   | exact ih4 _ _ _ _ _ _ _ _ _
   | exact ih5 _ _ _ _ _ _ _ _
   | exact furlongref03_Text.mono _ _
   | exact LeO.none _
   | refine LeO.ite ?_ ?_
   | refine LeO.bind ?_ (fun _ => ?_)
  ·intro y0 y1 y2 y3 y4 y5 y6 y7
   unfold furlonglaw03_StripKeeps.l1
   repeat' first
   | (with_reducible exact ih0 _ _ _ _ _ _ _ _)
   | (with_reducible exact ih1 _ _ _ _ _ _ _ _ _)
   | (with_reducible exact ih2 _ _ _ _ _ _ _ _)
   | (with_reducible exact ih3 _ _ _ _ _ _)
   | (with_reducible exact ih4 _ _ _ _ _ _ _ _ _)
   | (with_reducible exact ih5 _ _ _ _ _ _ _ _)
   | (with_reducible exact furlongref03_Text.mono _ _)
   | (with_reducible exact LeO.refl _)
   | (with_reducible exact LeO.none _)
   | (with_reducible refine LeO.ite ?_ ?_)
   | (with_reducible refine LeO.bind ?_ (fun _ => ?_))
   | exact ih0 _ _ _ _ _ _ _ _
   | exact ih1 _ _ _ _ _ _ _ _ _
   | exact ih2 _ _ _ _ _ _ _ _
   | exact ih3 _ _ _ _ _ _
   | exact ih4 _ _ _ _ _ _ _ _ _
   | exact ih5 _ _ _ _ _ _ _ _
   | exact furlongref03_Text.mono _ _
   | exact LeO.none _
   | refine LeO.ite ?_ ?_
   | refine LeO.bind ?_ (fun _ => ?_)
  ·intro y0 y1 y2 y3 y4 y5
   unfold furlonglaw03_StripKeeps.j3
   repeat' first
   | (with_reducible exact ih0 _ _ _ _ _ _ _ _)
   | (with_reducible exact ih1 _ _ _ _ _ _ _ _ _)
   | (with_reducible exact ih2 _ _ _ _ _ _ _ _)
   | (with_reducible exact ih3 _ _ _ _ _ _)
   | (with_reducible exact ih4 _ _ _ _ _ _ _ _ _)
   | (with_reducible exact ih5 _ _ _ _ _ _ _ _)
   | (with_reducible exact furlongref03_Text.mono _ _)
   | (with_reducible exact LeO.refl _)
   | (with_reducible exact LeO.none _)
   | (with_reducible refine LeO.ite ?_ ?_)
   | (with_reducible refine LeO.bind ?_ (fun _ => ?_))
   | exact ih0 _ _ _ _ _ _ _ _
   | exact ih1 _ _ _ _ _ _ _ _ _
   | exact ih2 _ _ _ _ _ _ _ _
   | exact ih3 _ _ _ _ _ _
   | exact ih4 _ _ _ _ _ _ _ _ _
   | exact ih5 _ _ _ _ _ _ _ _
   | exact furlongref03_Text.mono _ _
   | exact LeO.none _
   | refine LeO.ite ?_ ?_
   | refine LeO.bind ?_ (fun _ => ?_)
  ·intro y0 y1 y2 y3 y4 y5 y6 y7 y8
   unfold furlonglaw03_StripKeeps.l2
   repeat' first
   | (with_reducible exact ih0 _ _ _ _ _ _ _ _)
   | (with_reducible exact ih1 _ _ _ _ _ _ _ _ _)
   | (with_reducible exact ih2 _ _ _ _ _ _ _ _)
   | (with_reducible exact ih3 _ _ _ _ _ _)
   | (with_reducible exact ih4 _ _ _ _ _ _ _ _ _)
   | (with_reducible exact ih5 _ _ _ _ _ _ _ _)
   | (with_reducible exact furlongref03_Text.mono _ _)
   | (with_reducible exact LeO.refl _)
   | (with_reducible exact LeO.none _)
   | (with_reducible refine LeO.ite ?_ ?_)
   | (with_reducible refine LeO.bind ?_ (fun _ => ?_))
   | exact ih0 _ _ _ _ _ _ _ _
   | exact ih1 _ _ _ _ _ _ _ _ _
   | exact ih2 _ _ _ _ _ _ _ _
   | exact ih3 _ _ _ _ _ _
   | exact ih4 _ _ _ _ _ _ _ _ _
   | exact ih5 _ _ _ _ _ _ _ _
   | exact furlongref03_Text.mono _ _
   | exact LeO.none _
   | refine LeO.ite ?_ ?_
   | refine LeO.bind ?_ (fun _ => ?_)
  ·intro y0 y1 y2 y3 y4 y5 y6 y7
   unfold furlonglaw03_StripKeeps.l3
   repeat' first
   | (with_reducible exact ih0 _ _ _ _ _ _ _ _)
   | (with_reducible exact ih1 _ _ _ _ _ _ _ _ _)
   | (with_reducible exact ih2 _ _ _ _ _ _ _ _)
   | (with_reducible exact ih3 _ _ _ _ _ _)
   | (with_reducible exact ih4 _ _ _ _ _ _ _ _ _)
   | (with_reducible exact ih5 _ _ _ _ _ _ _ _)
   | (with_reducible exact furlongref03_Text.mono _ _)
   | (with_reducible exact LeO.refl _)
   | (with_reducible exact LeO.none _)
   | (with_reducible refine LeO.ite ?_ ?_)
   | (with_reducible refine LeO.bind ?_ (fun _ => ?_))
   | exact ih0 _ _ _ _ _ _ _ _
   | exact ih1 _ _ _ _ _ _ _ _ _
   | exact ih2 _ _ _ _ _ _ _ _
   | exact ih3 _ _ _ _ _ _
   | exact ih4 _ _ _ _ _ _ _ _ _
   | exact ih5 _ _ _ _ _ _ _ _
   | exact furlongref03_Text.mono _ _
   | exact LeO.none _
   | refine LeO.ite ?_ ?_
   | refine LeO.bind ?_ (fun _ => ?_)
theorem furlonglaw03_StripKeeps.mono : ∀ a0 a1 a2 k, LeO (furlonglaw03_StripKeeps.f k a0 a1 a2) (furlonglaw03_StripKeeps.f (k + 1) a0 a1 a2) := by
 intro a0 a1 a2 k
 obtain ⟨ih0, ih1, ih2, ih3, ih4, ih5⟩ := furlonglaw03_StripKeeps.mono_l k
 unfold furlonglaw03_StripKeeps.f
 repeat' first
   | (with_reducible exact ih0 _ _ _ _ _ _ _ _)
   | (with_reducible exact ih1 _ _ _ _ _ _ _ _ _)
   | (with_reducible exact ih2 _ _ _ _ _ _ _ _)
   | (with_reducible exact ih3 _ _ _ _ _ _)
   | (with_reducible exact ih4 _ _ _ _ _ _ _ _ _)
   | (with_reducible exact ih5 _ _ _ _ _ _ _ _)
   | (with_reducible exact furlongref03_Text.mono _ _)
   | (with_reducible exact LeO.refl _)
   | (with_reducible exact LeO.none _)
   | (with_reducible refine LeO.ite ?_ ?_)
   | (with_reducible refine LeO.bind ?_ (fun _ => ?_))
   | exact ih0 _ _ _ _ _ _ _ _
   | exact ih1 _ _ _ _ _ _ _ _ _
   | exact ih2 _ _ _ _ _ _ _ _
   | exact ih3 _ _ _ _ _ _
   | exact ih4 _ _ _ _ _ _ _ _ _
   | exact ih5 _ _ _ _ _ _ _ _
   | exact furlongref03_Text.mono _ _
   | exact LeO.none _
   | refine LeO.ite ?_ ?_
   | refine LeO.bind ?_ (fun _ => ?_)
def furlonglaw03_StripKeeps.T5 : Bool × List (List Nat × List Nat) := (true, [([], []), ([], []), ([1], [1]), ([0, 2], [0, 2]), ([], []), ([3, 4], [3, 4]), ([], []), ([], []), ([7], [7]), ([6, 8], [6, 8]), ([], []), ([9, 10, 5], [9, 10]), ([5, 11, 0, 1, 2, 3, 4, 5], [5]), ([11, 12, 0, 1, 2, 3, 4, 5, 6, 7, 8, 9, 10, 11, 12], [11])])
def furlonglaw03_StripKeeps.B5 : List Nat := [0, 0, 2, 7, 0, 31, 0, 0, 128, 448, 0, 2047, 4095, 8191]
theorem furlonglaw03_StripKeeps.tab5 : rtab .any (opsOf Try.f8 5) = furlonglaw03_StripKeeps.T5 := by kernel_rfl
theorem furlonglaw03_StripKeeps.bits5 : waitsOk furlonglaw03_StripKeeps.T5.2 furlonglaw03_StripKeeps.B5 = true := by kernel_rfl
set_option maxHeartbeats 8000000 in
set_option maxRecDepth 100000 in
theorem furlonglaw03_StripKeeps.calls (k : Nat) (A0 : Option Addr) (c0 : Nat) (l0 : List Int) (A1 : Option Addr) (c1 : Nat) (l1 : List Int) (a2 : Int) (r : Bool) (w : World) (hr0 : Kd.C (Kd.int .u8) w A0 l0.length l0) (hc0 : l0.length ≤ c0) (hr1 : Kd.C (Kd.int .u8) w A1 l1.length l1) (hc1 : l1.length ≤ c1) (h : furlonglaw03_StripKeeps.f k l0 l1 a2 = some r) :
  Calls Try.prog 8 #[.slice A0 l0.length c0, .slice A1 l1.length c1, .int .u64 a2] w fun e w' => e = .returned (.bool r) ∧ Below w.heap.size w w' := by
 have HR0 := Aside0.mk hr0
 have HC0 := Aside0.mk hc0
 clear hr0 hc0
 have HR1 := Aside0.mk hr1
 have HC1 := Aside0.mk hc1
 clear hr1 hc1
 have HB := Aside0.mk (Below.refl w.heap.size w)
 have H : ((furlonglaw03_awake.f).bind fun t131 => (if t131 = true then ((some (([] : List Int) : List Int)).bind fun y132 => (if y132.length + l0.length < 140737488355328 then ((some (y132 ++ l0 : List Int)).bind fun y135 => ((some (([71, 72] : List Int) : List Int)).bind fun y138 => (if y135.length + y138.length < 140737488355328 then ((some (y135 ++ y138 : List Int)).bind fun y141 => ((some (([] : List Int) : List Int)).bind fun y144 => (if y144.length + l1.length < 140737488355328 then ((some (y144 ++ l1 : List Int)).bind fun y147 => (if 0 ≤ (l0.length : Int) then (if (l0.length : Int) ≤ (y141.length : Int) then ((strip_Lay.f (y141.take ((l0.length : Int) : Int).toNat) a2).bind fun t154 => ((strip_LayBytes.f (y141.take ((l0.length : Int) : Int).toNat) y147).bind fun t161 => ((strip_Guard.f y147).bind fun bt164 => ((some (([] : List Int) : List Int)).bind fun y168 => (if y168.length + l0.length < 140737488355328 then ((some (y168 ++ l0 : List Int)).bind fun y171 => ((some (([71, 72] : List Int) : List Int)).bind fun y174 => (if y171.length + y174.length < 140737488355328 then ((furlongref01_Bytes.f y141 (y171 ++ y174)).bind fun t180 => (if t180 = true then ((furlongref01_Bytes.f y147 l1).bind fun t181 => (if t181 = true then (furlonglaw03_StripKeeps.j0 k l0 l1 y141 y147 t154 t161 bt164.1 ((bt164.2 == 0) != (decide ((l1.length : Int) ≤ 60000)))) else (furlonglaw03_StripKeeps.j0 k l0 l1 y141 y147 t154 t161 bt164.1 true))) else (furlonglaw03_StripKeeps.j0 k l0 l1 y141 y147 t154 t161 bt164.1 true))) else (none)))) else (none)))))) else (none)) else (none))) else (none)))) else (none)))) else (none))) else (some false))) = some r := h
 clear h
 replace H := Option.bind_eq_some_iff.mp H
 obtain ⟨t131, A40, H⟩ := H
 replace H : (if t131 = true then ((some (([] : List Int) : List Int)).bind fun y132 => (if y132.length + l0.length < 140737488355328 then ((some (y132 ++ l0 : List Int)).bind fun y135 => ((some (([71, 72] : List Int) : List Int)).bind fun y138 => (if y135.length + y138.length < 140737488355328 then ((some (y135 ++ y138 : List Int)).bind fun y141 => ((some (([] : List Int) : List Int)).bind fun y144 => (if y144.length + l1.length < 140737488355328 then ((some (y144 ++ l1 : List Int)).bind fun y147 => (if 0 ≤ (l0.length : Int) then (if (l0.length : Int) ≤ (y141.length : Int) then ((strip_Lay.f (y141.take ((l0.length : Int) : Int).toNat) a2).bind fun t154 => ((strip_LayBytes.f (y141.take ((l0.length : Int) : Int).toNat) y147).bind fun t161 => ((strip_Guard.f y147).bind fun bt164 => ((some (([] : List Int) : List Int)).bind fun y168 => (if y168.length + l0.length < 140737488355328 then ((some (y168 ++ l0 : List Int)).bind fun y171 => ((some (([71, 72] : List Int) : List Int)).bind fun y174 => (if y171.length + y174.length < 140737488355328 then ((furlongref01_Bytes.f y141 (y171 ++ y174)).bind fun t180 => (if t180 = true then ((furlongref01_Bytes.f y147 l1).bind fun t181 => (if t181 = true then (furlonglaw03_StripKeeps.j0 k l0 l1 y141 y147 t154 t161 bt164.1 ((bt164.2 == 0) != (decide ((l1.length : Int) ≤ 60000)))) else (furlonglaw03_StripKeeps.j0 k l0 l1 y141 y147 t154 t161 bt164.1 true))) else (furlonglaw03_StripKeeps.j0 k l0 l1 y141 y147 t154 t161 bt164.1 true))) else (none)))) else (none)))))) else (none)) else (none))) else (none)))) else (none)))) else (none))) else (some false)) = some r := H
 have A4 := Aside0.mk A40
 clear A40
 by_cases c5 : t131 = true
 ·subst c5
  have H1 : ((some (([] : List Int) : List Int)).bind fun y132 => (if y132.length + l0.length < 140737488355328 then ((some (y132 ++ l0 : List Int)).bind fun y135 => ((some (([71, 72] : List Int) : List Int)).bind fun y138 => (if y135.length + y138.length < 140737488355328 then ((some (y135 ++ y138 : List Int)).bind fun y141 => ((some (([] : List Int) : List Int)).bind fun y144 => (if y144.length + l1.length < 140737488355328 then ((some (y144 ++ l1 : List Int)).bind fun y147 => (if 0 ≤ (l0.length : Int) then (if (l0.length : Int) ≤ (y141.length : Int) then ((strip_Lay.f (y141.take ((l0.length : Int) : Int).toNat) a2).bind fun t154 => ((strip_LayBytes.f (y141.take ((l0.length : Int) : Int).toNat) y147).bind fun t161 => ((strip_Guard.f y147).bind fun bt164 => ((some (([] : List Int) : List Int)).bind fun y168 => (if y168.length + l0.length < 140737488355328 then ((some (y168 ++ l0 : List Int)).bind fun y171 => ((some (([71, 72] : List Int) : List Int)).bind fun y174 => (if y171.length + y174.length < 140737488355328 then ((furlongref01_Bytes.f y141 (y171 ++ y174)).bind fun t180 => (if t180 = true then ((furlongref01_Bytes.f y147 l1).bind fun t181 => (if t181 = true then (furlonglaw03_StripKeeps.j0 k l0 l1 y141 y147 t154 t161 bt164.1 ((bt164.2 == 0) != (decide ((l1.length : Int) ≤ 60000)))) else (furlonglaw03_StripKeeps.j0 k l0 l1 y141 y147 t154 t161 bt164.1 true))) else (furlonglaw03_StripKeeps.j0 k l0 l1 y141 y147 t154 t161 bt164.1 true))) else (none)))) else (none)))))) else (none)) else (none))) else (none)))) else (none)))) else (none))) = some r := by rw [if_pos rfl] at H; exact H
  clear H
  have H := H1
  clear H1
  obtain ⟨y132, hy132⟩ : ∃ y_ : List Int, y_ = (([] : List Int)) := ⟨_, rfl⟩
  replace H : (if y132.length + l0.length < 140737488355328 then ((some (y132 ++ l0 : List Int)).bind fun y135 => ((some (([71, 72] : List Int) : List Int)).bind fun y138 => (if y135.length + y138.length < 140737488355328 then ((some (y135 ++ y138 : List Int)).bind fun y141 => ((some (([] : List Int) : List Int)).bind fun y144 => (if y144.length + l1.length < 140737488355328 then ((some (y144 ++ l1 : List Int)).bind fun y147 => (if 0 ≤ (l0.length : Int) then (if (l0.length : Int) ≤ (y141.length : Int) then ((strip_Lay.f (y141.take ((l0.length : Int) : Int).toNat) a2).bind fun t154 => ((strip_LayBytes.f (y141.take ((l0.length : Int) : Int).toNat) y147).bind fun t161 => ((strip_Guard.f y147).bind fun bt164 => ((some (([] : List Int) : List Int)).bind fun y168 => (if y168.length + l0.length < 140737488355328 then ((some (y168 ++ l0 : List Int)).bind fun y171 => ((some (([71, 72] : List Int) : List Int)).bind fun y174 => (if y171.length + y174.length < 140737488355328 then ((furlongref01_Bytes.f y141 (y171 ++ y174)).bind fun t180 => (if t180 = true then ((furlongref01_Bytes.f y147 l1).bind fun t181 => (if t181 = true then (furlonglaw03_StripKeeps.j0 k l0 l1 y141 y147 t154 t161 bt164.1 ((bt164.2 == 0) != (decide ((l1.length : Int) ≤ 60000)))) else (furlonglaw03_StripKeeps.j0 k l0 l1 y141 y147 t154 t161 bt164.1 true))) else (furlonglaw03_StripKeeps.j0 k l0 l1 y141 y147 t154 t161 bt164.1 true))) else (none)))) else (none)))))) else (none)) else (none))) else (none)))) else (none)))) else (none)) = some r := by first | (rw [hy132]; with_reducible exact H) | (have H2_ := (Option.bind_some _ _).symm.trans H; rw [hy132]; with_reducible exact H2_) | (have H2_ := (Option.bind_some _ _).symm.trans H; with_reducible exact H2_) | with_reducible exact H | (rw [hy132]; exact H) | exact H
  have Ny132 := Aside0.mk hy132
  clear hy132
  by_cases c6 : y132.length + l0.length < 140737488355328
  ·rw [if_pos c6] at H
   have LMc6 := Aside0.mk c6
   clear c6
   obtain ⟨y135, hy135⟩ : ∃ y_ : List Int, y_ = (y132 ++ l0) := ⟨_, rfl⟩
   replace H : ((some (([71, 72] : List Int) : List Int)).bind fun y138 => (if y135.length + y138.length < 140737488355328 then ((some (y135 ++ y138 : List Int)).bind fun y141 => ((some (([] : List Int) : List Int)).bind fun y144 => (if y144.length + l1.length < 140737488355328 then ((some (y144 ++ l1 : List Int)).bind fun y147 => (if 0 ≤ (l0.length : Int) then (if (l0.length : Int) ≤ (y141.length : Int) then ((strip_Lay.f (y141.take ((l0.length : Int) : Int).toNat) a2).bind fun t154 => ((strip_LayBytes.f (y141.take ((l0.length : Int) : Int).toNat) y147).bind fun t161 => ((strip_Guard.f y147).bind fun bt164 => ((some (([] : List Int) : List Int)).bind fun y168 => (if y168.length + l0.length < 140737488355328 then ((some (y168 ++ l0 : List Int)).bind fun y171 => ((some (([71, 72] : List Int) : List Int)).bind fun y174 => (if y171.length + y174.length < 140737488355328 then ((furlongref01_Bytes.f y141 (y171 ++ y174)).bind fun t180 => (if t180 = true then ((furlongref01_Bytes.f y147 l1).bind fun t181 => (if t181 = true then (furlonglaw03_StripKeeps.j0 k l0 l1 y141 y147 t154 t161 bt164.1 ((bt164.2 == 0) != (decide ((l1.length : Int) ≤ 60000)))) else (furlonglaw03_StripKeeps.j0 k l0 l1 y141 y147 t154 t161 bt164.1 true))) else (furlonglaw03_StripKeeps.j0 k l0 l1 y141 y147 t154 t161 bt164.1 true))) else (none)))) else (none)))))) else (none)) else (none))) else (none)))) else (none))) = some r := by first | (rw [hy135]; with_reducible exact H) | (have H2_ := (Option.bind_some _ _).symm.trans H; rw [hy135]; with_reducible exact H2_) | (have H2_ := (Option.bind_some _ _).symm.trans H; with_reducible exact H2_) | with_reducible exact H | (rw [hy135]; exact H) | exact H
   have Ny135 := Aside0.mk hy135
   clear hy135
   obtain ⟨y138, hy138⟩ : ∃ y_ : List Int, y_ = (([71, 72] : List Int)) := ⟨_, rfl⟩
   replace H : (if y135.length + y138.length < 140737488355328 then ((some (y135 ++ y138 : List Int)).bind fun y141 => ((some (([] : List Int) : List Int)).bind fun y144 => (if y144.length + l1.length < 140737488355328 then ((some (y144 ++ l1 : List Int)).bind fun y147 => (if 0 ≤ (l0.length : Int) then (if (l0.length : Int) ≤ (y141.length : Int) then ((strip_Lay.f (y141.take ((l0.length : Int) : Int).toNat) a2).bind fun t154 => ((strip_LayBytes.f (y141.take ((l0.length : Int) : Int).toNat) y147).bind fun t161 => ((strip_Guard.f y147).bind fun bt164 => ((some (([] : List Int) : List Int)).bind fun y168 => (if y168.length + l0.length < 140737488355328 then ((some (y168 ++ l0 : List Int)).bind fun y171 => ((some (([71, 72] : List Int) : List Int)).bind fun y174 => (if y171.length + y174.length < 140737488355328 then ((furlongref01_Bytes.f y141 (y171 ++ y174)).bind fun t180 => (if t180 = true then ((furlongref01_Bytes.f y147 l1).bind fun t181 => (if t181 = true then (furlonglaw03_StripKeeps.j0 k l0 l1 y141 y147 t154 t161 bt164.1 ((bt164.2 == 0) != (decide ((l1.length : Int) ≤ 60000)))) else (furlonglaw03_StripKeeps.j0 k l0 l1 y141 y147 t154 t161 bt164.1 true))) else (furlonglaw03_StripKeeps.j0 k l0 l1 y141 y147 t154 t161 bt164.1 true))) else (none)))) else (none)))))) else (none)) else (none))) else (none)))) else (none)) = some r := by first | (rw [hy138]; with_reducible exact H) | (have H2_ := (Option.bind_some _ _).symm.trans H; rw [hy138]; with_reducible exact H2_) | (have H2_ := (Option.bind_some _ _).symm.trans H; with_reducible exact H2_) | with_reducible exact H | (rw [hy138]; exact H) | exact H
   have Ny138 := Aside0.mk hy138
   clear hy138
   by_cases c7 : y135.length + y138.length < 140737488355328
   ·rw [if_pos c7] at H
    have LMc7 := Aside0.mk c7
    clear c7
    obtain ⟨y141, hy141⟩ : ∃ y_ : List Int, y_ = (y135 ++ y138) := ⟨_, rfl⟩
    replace H : ((some (([] : List Int) : List Int)).bind fun y144 => (if y144.length + l1.length < 140737488355328 then ((some (y144 ++ l1 : List Int)).bind fun y147 => (if 0 ≤ (l0.length : Int) then (if (l0.length : Int) ≤ (y141.length : Int) then ((strip_Lay.f (y141.take ((l0.length : Int) : Int).toNat) a2).bind fun t154 => ((strip_LayBytes.f (y141.take ((l0.length : Int) : Int).toNat) y147).bind fun t161 => ((strip_Guard.f y147).bind fun bt164 => ((some (([] : List Int) : List Int)).bind fun y168 => (if y168.length + l0.length < 140737488355328 then ((some (y168 ++ l0 : List Int)).bind fun y171 => ((some (([71, 72] : List Int) : List Int)).bind fun y174 => (if y171.length + y174.length < 140737488355328 then ((furlongref01_Bytes.f y141 (y171 ++ y174)).bind fun t180 => (if t180 = true then ((furlongref01_Bytes.f y147 l1).bind fun t181 => (if t181 = true then (furlonglaw03_StripKeeps.j0 k l0 l1 y141 y147 t154 t161 bt164.1 ((bt164.2 == 0) != (decide ((l1.length : Int) ≤ 60000)))) else (furlonglaw03_StripKeeps.j0 k l0 l1 y141 y147 t154 t161 bt164.1 true))) else (furlonglaw03_StripKeeps.j0 k l0 l1 y141 y147 t154 t161 bt164.1 true))) else (none)))) else (none)))))) else (none)) else (none))) else (none))) = some r := by first | (rw [hy141]; with_reducible exact H) | (have H2_ := (Option.bind_some _ _).symm.trans H; rw [hy141]; with_reducible exact H2_) | (have H2_ := (Option.bind_some _ _).symm.trans H; with_reducible exact H2_) | with_reducible exact H | (rw [hy141]; exact H) | exact H
    have Ny141 := Aside0.mk hy141
    clear hy141
    obtain ⟨y144, hy144⟩ : ∃ y_ : List Int, y_ = (([] : List Int)) := ⟨_, rfl⟩
    replace H : (if y144.length + l1.length < 140737488355328 then ((some (y144 ++ l1 : List Int)).bind fun y147 => (if 0 ≤ (l0.length : Int) then (if (l0.length : Int) ≤ (y141.length : Int) then ((strip_Lay.f (y141.take ((l0.length : Int) : Int).toNat) a2).bind fun t154 => ((strip_LayBytes.f (y141.take ((l0.length : Int) : Int).toNat) y147).bind fun t161 => ((strip_Guard.f y147).bind fun bt164 => ((some (([] : List Int) : List Int)).bind fun y168 => (if y168.length + l0.length < 140737488355328 then ((some (y168 ++ l0 : List Int)).bind fun y171 => ((some (([71, 72] : List Int) : List Int)).bind fun y174 => (if y171.length + y174.length < 140737488355328 then ((furlongref01_Bytes.f y141 (y171 ++ y174)).bind fun t180 => (if t180 = true then ((furlongref01_Bytes.f y147 l1).bind fun t181 => (if t181 = true then (furlonglaw03_StripKeeps.j0 k l0 l1 y141 y147 t154 t161 bt164.1 ((bt164.2 == 0) != (decide ((l1.length : Int) ≤ 60000)))) else (furlonglaw03_StripKeeps.j0 k l0 l1 y141 y147 t154 t161 bt164.1 true))) else (furlonglaw03_StripKeeps.j0 k l0 l1 y141 y147 t154 t161 bt164.1 true))) else (none)))) else (none)))))) else (none)) else (none))) else (none)) = some r := by first | (rw [hy144]; with_reducible exact H) | (have H2_ := (Option.bind_some _ _).symm.trans H; rw [hy144]; with_reducible exact H2_) | (have H2_ := (Option.bind_some _ _).symm.trans H; with_reducible exact H2_) | with_reducible exact H | (rw [hy144]; exact H) | exact H
    have Ny144 := Aside0.mk hy144
    clear hy144
    by_cases c8 : y144.length + l1.length < 140737488355328
    ·rw [if_pos c8] at H
     have LMc8 := Aside0.mk c8
     clear c8
     obtain ⟨y147, hy147⟩ : ∃ y_ : List Int, y_ = (y144 ++ l1) := ⟨_, rfl⟩
     replace H : (if 0 ≤ (l0.length : Int) then (if (l0.length : Int) ≤ (y141.length : Int) then ((strip_Lay.f (y141.take ((l0.length : Int) : Int).toNat) a2).bind fun t154 => ((strip_LayBytes.f (y141.take ((l0.length : Int) : Int).toNat) y147).bind fun t161 => ((strip_Guard.f y147).bind fun bt164 => ((some (([] : List Int) : List Int)).bind fun y168 => (if y168.length + l0.length < 140737488355328 then ((some (y168 ++ l0 : List Int)).bind fun y171 => ((some (([71, 72] : List Int) : List Int)).bind fun y174 => (if y171.length + y174.length < 140737488355328 then ((furlongref01_Bytes.f y141 (y171 ++ y174)).bind fun t180 => (if t180 = true then ((furlongref01_Bytes.f y147 l1).bind fun t181 => (if t181 = true then (furlonglaw03_StripKeeps.j0 k l0 l1 y141 y147 t154 t161 bt164.1 ((bt164.2 == 0) != (decide ((l1.length : Int) ≤ 60000)))) else (furlonglaw03_StripKeeps.j0 k l0 l1 y141 y147 t154 t161 bt164.1 true))) else (furlonglaw03_StripKeeps.j0 k l0 l1 y141 y147 t154 t161 bt164.1 true))) else (none)))) else (none)))))) else (none)) else (none)) = some r := by first | (rw [hy147]; with_reducible exact H) | (have H2_ := (Option.bind_some _ _).symm.trans H; rw [hy147]; with_reducible exact H2_) | (have H2_ := (Option.bind_some _ _).symm.trans H; with_reducible exact H2_) | with_reducible exact H | (rw [hy147]; exact H) | exact H
     have Ny147 := Aside0.mk hy147
     clear hy147
     by_cases c9 : 0 ≤ (l0.length : Int)
     ·rw [if_pos c9] at H
      have c9b0 := eq_true c9
      have c9b1 : decide (0 ≤ (l0.length : Int)) = true := decide_eq_true c9
      clear c9
      by_cases c10 : (l0.length : Int) ≤ (y141.length : Int)
      ·rw [if_pos c10] at H
       have c10b0 := eq_true c10
       have c10b1 : decide ((l0.length : Int) ≤ (y141.length : Int)) = true := decide_eq_true c10
       clear c10
       obtain ⟨y150, hy150⟩ : ∃ y_ : List Int, y_ = (y141.take ((l0.length : Int) : Int).toNat) := ⟨_, rfl⟩
       replace H : ((strip_Lay.f y150 a2).bind fun t154 => ((strip_LayBytes.f (y141.take ((l0.length : Int) : Int).toNat) y147).bind fun t161 => ((strip_Guard.f y147).bind fun bt164 => ((some (([] : List Int) : List Int)).bind fun y168 => (if y168.length + l0.length < 140737488355328 then ((some (y168 ++ l0 : List Int)).bind fun y171 => ((some (([71, 72] : List Int) : List Int)).bind fun y174 => (if y171.length + y174.length < 140737488355328 then ((furlongref01_Bytes.f y141 (y171 ++ y174)).bind fun t180 => (if t180 = true then ((furlongref01_Bytes.f y147 l1).bind fun t181 => (if t181 = true then (furlonglaw03_StripKeeps.j0 k l0 l1 y141 y147 t154 t161 bt164.1 ((bt164.2 == 0) != (decide ((l1.length : Int) ≤ 60000)))) else (furlonglaw03_StripKeeps.j0 k l0 l1 y141 y147 t154 t161 bt164.1 true))) else (furlonglaw03_StripKeeps.j0 k l0 l1 y141 y147 t154 t161 bt164.1 true))) else (none)))) else (none)))))) = some r := by first | (rw [hy150]; with_reducible exact H) | (have H2_ := (Option.bind_some _ _).symm.trans H; rw [hy150]; with_reducible exact H2_) | (have H2_ := (Option.bind_some _ _).symm.trans H; with_reducible exact H2_) | with_reducible exact H | (rw [hy150]; exact H) | exact H
       have Ny150 := Aside0.mk hy150
       clear hy150
       replace H := Option.bind_eq_some_iff.mp H
       obtain ⟨t154, A110, H⟩ := H
       replace H : ((strip_LayBytes.f (y141.take ((l0.length : Int) : Int).toNat) y147).bind fun t161 => ((strip_Guard.f y147).bind fun bt164 => ((some (([] : List Int) : List Int)).bind fun y168 => (if y168.length + l0.length < 140737488355328 then ((some (y168 ++ l0 : List Int)).bind fun y171 => ((some (([71, 72] : List Int) : List Int)).bind fun y174 => (if y171.length + y174.length < 140737488355328 then ((furlongref01_Bytes.f y141 (y171 ++ y174)).bind fun t180 => (if t180 = true then ((furlongref01_Bytes.f y147 l1).bind fun t181 => (if t181 = true then (furlonglaw03_StripKeeps.j0 k l0 l1 y141 y147 t154 t161 bt164.1 ((bt164.2 == 0) != (decide ((l1.length : Int) ≤ 60000)))) else (furlonglaw03_StripKeeps.j0 k l0 l1 y141 y147 t154 t161 bt164.1 true))) else (furlonglaw03_StripKeeps.j0 k l0 l1 y141 y147 t154 t161 bt164.1 true))) else (none)))) else (none))))) = some r := H
       have A11 := Aside0.mk A110
       clear A110
       have c12b0 := eq_true (of_decide_eq_true (by first | (with_reducible assumption) | assumption) : 0 ≤ (l0.length : Int))
       have c13b0 := eq_true (of_decide_eq_true (by first | (with_reducible assumption) | assumption) : (l0.length : Int) ≤ (y141.length : Int))
       have hy157 := Ny150.out
       replace H : ((strip_LayBytes.f y150 y147).bind fun t161 => ((strip_Guard.f y147).bind fun bt164 => ((some (([] : List Int) : List Int)).bind fun y168 => (if y168.length + l0.length < 140737488355328 then ((some (y168 ++ l0 : List Int)).bind fun y171 => ((some (([71, 72] : List Int) : List Int)).bind fun y174 => (if y171.length + y174.length < 140737488355328 then ((furlongref01_Bytes.f y141 (y171 ++ y174)).bind fun t180 => (if t180 = true then ((furlongref01_Bytes.f y147 l1).bind fun t181 => (if t181 = true then (furlonglaw03_StripKeeps.j0 k l0 l1 y141 y147 t154 t161 bt164.1 ((bt164.2 == 0) != (decide ((l1.length : Int) ≤ 60000)))) else (furlonglaw03_StripKeeps.j0 k l0 l1 y141 y147 t154 t161 bt164.1 true))) else (furlonglaw03_StripKeeps.j0 k l0 l1 y141 y147 t154 t161 bt164.1 true))) else (none)))) else (none))))) = some r := by first | (rw [hy157]; with_reducible exact H) | (have H2_ := (Option.bind_some _ _).symm.trans H; rw [hy157]; with_reducible exact H2_) | (have H2_ := (Option.bind_some _ _).symm.trans H; with_reducible exact H2_) | with_reducible exact H | (rw [hy157]; exact H) | exact H
       have Ny157 := Aside0.mk hy157
       clear hy157
       replace H := Option.bind_eq_some_iff.mp H
       obtain ⟨t161, A140, H⟩ := H
       replace H : ((strip_Guard.f y147).bind fun bt164 => ((some (([] : List Int) : List Int)).bind fun y168 => (if y168.length + l0.length < 140737488355328 then ((some (y168 ++ l0 : List Int)).bind fun y171 => ((some (([71, 72] : List Int) : List Int)).bind fun y174 => (if y171.length + y174.length < 140737488355328 then ((furlongref01_Bytes.f y141 (y171 ++ y174)).bind fun t180 => (if t180 = true then ((furlongref01_Bytes.f y147 l1).bind fun t181 => (if t181 = true then (furlonglaw03_StripKeeps.j0 k l0 l1 y141 y147 t154 t161 bt164.1 ((bt164.2 == 0) != (decide ((l1.length : Int) ≤ 60000)))) else (furlonglaw03_StripKeeps.j0 k l0 l1 y141 y147 t154 t161 bt164.1 true))) else (furlonglaw03_StripKeeps.j0 k l0 l1 y141 y147 t154 t161 bt164.1 true))) else (none)))) else (none)))) = some r := H
       have A14 := Aside0.mk A140
       clear A140
       replace H := Option.bind_eq_some_iff.mp H
       obtain ⟨⟨t164, t165⟩, A150, H⟩ := H
       replace H : ((some (([] : List Int) : List Int)).bind fun y168 => (if y168.length + l0.length < 140737488355328 then ((some (y168 ++ l0 : List Int)).bind fun y171 => ((some (([71, 72] : List Int) : List Int)).bind fun y174 => (if y171.length + y174.length < 140737488355328 then ((furlongref01_Bytes.f y141 (y171 ++ y174)).bind fun t180 => (if t180 = true then ((furlongref01_Bytes.f y147 l1).bind fun t181 => (if t181 = true then (furlonglaw03_StripKeeps.j0 k l0 l1 y141 y147 t154 t161 t164 ((t165 == 0) != (decide ((l1.length : Int) ≤ 60000)))) else (furlonglaw03_StripKeeps.j0 k l0 l1 y141 y147 t154 t161 t164 true))) else (furlonglaw03_StripKeeps.j0 k l0 l1 y141 y147 t154 t161 t164 true))) else (none)))) else (none))) = some r := H
       have A15 := Aside0.mk A150
       clear A150
       have HC16 := Aside0.mk H
       clear H
       go_enter Try.func8, Try.ntmps8
       try go_wp2_with (first | ((with_reducible refine gate_callee (f := 11) rfl ?_); refine goesL_ (some 25) rfl rfl Try.func11 (by kernel_rfl) rfl #[] rfl (by (try simp only [List.map_toArray, List.map_cons, List.map_nil]); first | done | rfl | (simp only [List.length_drop, List.length_take]; rfl)) ?_; (with_reducible refine (furlonglaw03_awake.calls  true _ A4.out).mono ?_); rintro e w17 ⟨rfl, hb⟩; refine ⟨_, rfl, ?_⟩; have n0_ := Aside0.mk (below_step (by repeat (first | (with_reducible first | exact HB.out | apply below_alloc | apply pw_below_drewN | apply below_drew1) | exact HB.out)) hb); clear HB; have HB := n0_; clear n0_; (try clear hb); (try clear hb2); (try clear hk); (try clear hi)) | ((with_reducible refine gate_dst (N := 27) rfl ?_); (try (refine gate_guard (by rfl) ?_; dsimp only)); refine Kd.R_lit (Kd.int .u8) _ 5 ?hg (N := 27) ?hd (xs := ([] : List Int)) (inner := []) (ok := fun _ => True) (okp := fun _ => True) ?hr ?hp (fun _ hk => hk) trivial (Below.refl _ _) (Nat.le_refl _) (by simp) ?_; (case hd => rfl); (case hg => rfl); (case hr => first | (go_simp; done) | (go_simp; rfl)); (case hp => exact (Reps.none _ _)); intro v133 w18 ho19 hb hg_ hnew_; clear hg_ hnew_; (first | rw [← Ny132.out] at ho19 | (simp only [Int.reduceToNat] at ho19; rw [← Ny132.out] at ho19)); have n0_ := Aside0.mk (Kd.R_lower ho19 (below_size (by repeat (first | (with_reducible first | exact HB.out | apply below_alloc | apply pw_below_drewN | apply below_drew1) | exact HB.out)))); have n1_ := Aside0.mk (below_step (by repeat (first | (with_reducible first | exact HB.out | apply below_alloc | apply pw_below_drewN | apply below_drew1) | exact HB.out)) hb); clear HB; have HO134 := n0_; have HB := n1_; clear n0_ n1_; clear hb ho19) | ((with_reducible refine gate_builtin (b := .append) (xs := #[.tmp 27, .tmp 28]) rfl ?_); (try (refine gate_guard (by rfl) ?_; dsimp only)); at_builtin; refine Kd.R_append_rows (Kd.int .u8) (w0 := w) w.heap.size rfl (.tmp 27) (.tmp 28) 22 5 (.int .u8 0) 1 rfl Try.underlying22 info5 rfl (by decide) (by omega) v133 y132 l0 _ _ _ (fun _ => True) (fun _ => False) rfl rfl ?aO ?aR (fun _ _ h => h) (fun _ h => h.elim) ?aF ?aB ?aS ?aL ?_; (case aR => repeat (first | exact (Kd.C_below HR0.out HB.out) | (with_reducible refine Kd.C_alloc ?_ _) | (with_reducible refine Kd.C_drewN ?_ _) | (with_reducible refine Kd.C_drew ?_))); (case aB => exact (by repeat (first | (with_reducible first | exact HB.out | apply below_alloc | apply pw_below_drewN | apply below_drew1) | exact HB.out))); (case aF => exact (fun _ _ => trivial)); (case aO => exact (by (with_reducible repeat (first | apply Kd.R_alloc | apply Kd.R_drewN | apply Kd.R_drew)); exact HO134.out)); (case aS => exact (below_size (by repeat (first | (with_reducible first | exact HB.out | apply below_alloc | apply pw_below_drewN | apply below_drew1) | exact HB.out)))); (case aL => have := LMc6.out; omega); intro v136 w20 ho hb hg hat; rw [← Ny135.out] at ho; have n0_ := Aside0.mk (hb); have n1_ := Aside0.mk (ho); clear HB; clear HO134; have HB := n0_; have HO137 := n1_; clear n0_ n1_; clear ho hb hg hat) | ((with_reducible refine gate_dst (N := 30) rfl ?_); (try (refine gate_guard (by rfl) ?_; dsimp only)); refine Kd.R_lit (Kd.int .u8) _ 5 ?hg (N := 30) ?hd (xs := ([71, 72] : List Int)) (inner := [.int .u8 71, .int .u8 72]) (ok := fun _ => True) (okp := fun _ => True) ?hr ?hp (fun _ hk => hk) trivial (Below.refl _ _) (Nat.le_refl _) (by simp) ?_; (case hd => rfl); (case hg => rfl); (case hr => first | (go_simp; done) | (go_simp; rfl)); (case hp => exact (Reps.one (show Kd.M (Kd.int .u8) _ _ _ 71 [.int .u8 71] from rfl) (Reps.one (show Kd.M (Kd.int .u8) _ _ _ 72 [.int .u8 72] from rfl) (Reps.none _ _)))); intro v139 w21 ho22 hb hg_ hnew_; clear hg_ hnew_; (first | rw [← Ny138.out] at ho22 | (simp only [Int.reduceToNat] at ho22; rw [← Ny138.out] at ho22)); have n0_ := Aside0.mk (Kd.R_elder' (by (with_reducible repeat (first | apply Kd.R_alloc | apply Kd.R_drewN | apply Kd.R_drew)); exact HO137.out) (Kd.R_base ho22) hb); have n1_ := Aside0.mk (Kd.R_lower (Kd.R_new' ho22 (Kd.R_lt (by (with_reducible repeat (first | apply Kd.R_alloc | apply Kd.R_drewN | apply Kd.R_drew)); exact HO137.out))) (below_size (by repeat (first | (with_reducible first | exact HB.out | apply below_alloc | apply pw_below_drewN | apply below_drew1) | exact HB.out)))); have n2_ := Aside0.mk (below_step (by repeat (first | (with_reducible first | exact HB.out | apply below_alloc | apply pw_below_drewN | apply below_drew1) | exact HB.out)) hb); clear HO137; clear HB; have HO137 := n0_; have HO140 := n1_; have HB := n2_; clear n0_ n1_ n2_; clear hb ho22; obtain ⟨Ao24, co24, eo24⟩ := Kd.R_slice HO140.out; subst eo24) | ((with_reducible refine gate_builtin (b := .append) (xs := #[.tmp 29, .tmp 30]) rfl ?_); (try (refine gate_guard (by rfl) ?_; dsimp only)); at_builtin; refine Kd.R_append_rows (Kd.int .u8) (w0 := w) w.heap.size rfl (.tmp 29) (.tmp 30) 22 5 (.int .u8 0) 1 rfl Try.underlying22 info5 rfl (by decide) (by omega) v136 y135 y138 _ _ _ (fun k_ => some k_ ≠ (.slice Ao24 y138.length co24 : Value).ownBlock) (fun _ => False) rfl rfl ?aO ?aR (fun _ _ h => h) (fun _ h => h.elim) ?aF ?aB ?aS ?aL ?_; (case aR => repeat (first | exact (Kd.R_reads' HO140.out).2.2 | (with_reducible refine Kd.C_alloc ?_ _) | (with_reducible refine Kd.C_drewN ?_ _) | (with_reducible refine Kd.C_drew ?_))); (case aB => exact (by repeat (first | (with_reducible first | exact HB.out | apply below_alloc | apply pw_below_drewN | apply below_drew1) | exact HB.out))); (case aF => exact (fun k_ hk => Kd.fresh' (Kd.R_lt (by (with_reducible repeat (first | apply Kd.R_alloc | apply Kd.R_drewN | apply Kd.R_drew)); exact HO140.out)) k_ hk)); (case aO => exact (by (with_reducible repeat (first | apply Kd.R_alloc | apply Kd.R_drewN | apply Kd.R_drew)); exact Kd.R_mono HO137.out (fun _ hk => hk.2))); (case aS => exact (below_size (by repeat (first | (with_reducible first | exact HB.out | apply below_alloc | apply pw_below_drewN | apply below_drew1) | exact HB.out)))); (case aL => have := LMc7.out; omega); intro v142 w23 ho hb hg hat; rw [← Ny141.out] at ho; have n0_ := Aside0.mk (Kd.R_after (ok := (fun _ => True)) (by (with_reducible repeat (first | apply Kd.R_alloc | apply Kd.R_drewN | apply Kd.R_drew)); exact HO140.out) hg hat); have n1_ := Aside0.mk (hb); have n2_ := Aside0.mk (ho); clear HO140; clear HB; clear HO137; have HO140 := n0_; have HB := n1_; have HO143 := n2_; clear n0_ n1_ n2_; clear ho hb hg hat) | ((with_reducible refine gate_dst (N := 32) rfl ?_); (try (refine gate_guard (by rfl) ?_; dsimp only)); refine Kd.R_lit (Kd.int .u8) _ 5 ?hg (N := 32) ?hd (xs := ([] : List Int)) (inner := []) (ok := fun _ => True) (okp := fun _ => True) ?hr ?hp (fun _ hk => hk) trivial (Below.refl _ _) (Nat.le_refl _) (by simp) ?_; (case hd => rfl); (case hg => rfl); (case hr => first | (go_simp; done) | (go_simp; rfl)); (case hp => exact (Reps.none _ _)); intro v145 w25 ho26 hb hg_ hnew_; clear hg_ hnew_; (first | rw [← Ny144.out] at ho26 | (simp only [Int.reduceToNat] at ho26; rw [← Ny144.out] at ho26)); have n0_ := Aside0.mk (Kd.R_elder' (by (with_reducible repeat (first | apply Kd.R_alloc | apply Kd.R_drewN | apply Kd.R_drew)); exact HO140.out) (Kd.R_base ho26) hb); have n1_ := Aside0.mk (Kd.R_elder' (by (with_reducible repeat (first | apply Kd.R_alloc | apply Kd.R_drewN | apply Kd.R_drew)); exact HO143.out) (Kd.R_base ho26) hb); have n2_ := Aside0.mk (Kd.R_lower (Kd.R_new' (Kd.R_new' ho26 (Kd.R_lt (by (with_reducible repeat (first | apply Kd.R_alloc | apply Kd.R_drewN | apply Kd.R_drew)); exact HO140.out))) (Kd.R_lt (by (with_reducible repeat (first | apply Kd.R_alloc | apply Kd.R_drewN | apply Kd.R_drew)); exact HO143.out))) (below_size (by repeat (first | (with_reducible first | exact HB.out | apply below_alloc | apply pw_below_drewN | apply below_drew1) | exact HB.out)))); have n3_ := Aside0.mk (below_step (by repeat (first | (with_reducible first | exact HB.out | apply below_alloc | apply pw_below_drewN | apply below_drew1) | exact HB.out)) hb); clear HO140; clear HO143; clear HB; have HO140 := n0_; have HO143 := n1_; have HO146 := n2_; have HB := n3_; clear n0_ n1_ n2_ n3_; clear hb ho26) | ((with_reducible refine gate_builtin (b := .append) (xs := #[.tmp 32, .tmp 33]) rfl ?_); (try (refine gate_guard (by rfl) ?_; dsimp only)); at_builtin; refine Kd.R_append_rows (Kd.int .u8) (w0 := w) w.heap.size rfl (.tmp 32) (.tmp 33) 22 5 (.int .u8 0) 1 rfl Try.underlying22 info5 rfl (by decide) (by omega) v145 y144 l1 _ _ _ (fun k_ => some k_ ≠ (.slice Ao24 y138.length co24 : Value).ownBlock ∧ some k_ ≠ (v142 : Value).ownBlock) (fun _ => False) rfl rfl ?aO ?aR (fun _ _ h => h) (fun _ h => h.elim) ?aF ?aB ?aS ?aL ?_; (case aR => repeat (first | exact (Kd.C_below HR1.out HB.out) | (with_reducible refine Kd.C_alloc ?_ _) | (with_reducible refine Kd.C_drewN ?_ _) | (with_reducible refine Kd.C_drew ?_))); (case aB => exact (by repeat (first | (with_reducible first | exact HB.out | apply below_alloc | apply pw_below_drewN | apply below_drew1) | exact HB.out))); (case aF => exact (fun k_ hk => ⟨Kd.fresh' (Kd.R_lt (by (with_reducible repeat (first | apply Kd.R_alloc | apply Kd.R_drewN | apply Kd.R_drew)); exact HO140.out)) k_ hk, Kd.fresh' (Kd.R_lt (by (with_reducible repeat (first | apply Kd.R_alloc | apply Kd.R_drewN | apply Kd.R_drew)); exact HO143.out)) k_ hk⟩)); (case aO => exact (by (with_reducible repeat (first | apply Kd.R_alloc | apply Kd.R_drewN | apply Kd.R_drew)); exact Kd.R_mono HO146.out (fun _ hk => ⟨hk.1.2, hk.2⟩))); (case aS => exact (below_size (by repeat (first | (with_reducible first | exact HB.out | apply below_alloc | apply pw_below_drewN | apply below_drew1) | exact HB.out)))); (case aL => have := LMc8.out; omega); intro v148 w27 ho hb hg hat; rw [← Ny147.out] at ho; have n0_ := Aside0.mk (Kd.R_after (ok := (fun k_ => some k_ ≠ (v142 : Value).ownBlock)) (by (with_reducible repeat (first | apply Kd.R_alloc | apply Kd.R_drewN | apply Kd.R_drew)); exact Kd.R_mono HO140.out (fun _ hk => ⟨hk.1.2, hk.2⟩)) hg hat); have n1_ := Aside0.mk (Kd.R_after (ok := (fun k_ => some k_ ≠ (.slice Ao24 y138.length co24 : Value).ownBlock)) (by (with_reducible repeat (first | apply Kd.R_alloc | apply Kd.R_drewN | apply Kd.R_drew)); exact HO143.out) hg hat); have n2_ := Aside0.mk (hb); have n3_ := Aside0.mk (ho); clear HO140; clear HO143; clear HB; clear HO146; have HO140 := n0_; have HO143 := n1_; have HB := n2_; have HO149 := n3_; clear n0_ n1_ n2_ n3_; clear ho hb hg hat))
       have n0_ := Aside0.mk (Kd.R_drew HO140.out)
       have n1_ := Aside0.mk (Kd.R_drew HO143.out)
       have n2_ := Aside0.mk (Kd.R_drew HO149.out)
       have n3_ := Aside0.mk (below_drew1 HB.out)
       clear HO140
       clear HO143
       clear HO149
       clear HB
       have HO140 := n0_
       have HO143 := n1_
       have HO149 := n2_
       have HB := n3_
       clear n0_ n1_ n2_ n3_
       obtain ⟨Ao30, co30, eo30⟩ := Kd.R_slice HO143.out
       (first | subst eo30 | (injection eo30 with f1_ f2_ f3_; have f4_ := f1_.symm; have f5_ := f3_.symm; clear f1_ f2_ f3_; subst f4_; subst f5_))
       have q29 : ((l0.length : Int) : Int) ≤ ((y141.length : Int) : Int) := of_decide_eq_true (by first | (with_reducible assumption) | assumption)
       obtain ⟨i029, hi029, _, hsz29, _⟩ := info_parts info5
       have hroom29 : y141.length ≤ co30 := (Kd.R_reads' HO143.out).2.1
       have hC29 : Kd.C (Kd.int .u8) _ Ao30 y141.length y141 := (Kd.R_reads' HO143.out).2.2
       have hcut29 := cut_to (P := Try.prog) 22 5 .i64 Try.underlying22 hi029 Ao30 y141.length co30 (l0.length : Int) (of_decide_eq_true (by first | (with_reducible assumption) | assumption)) q29 hroom29
       have hr29 := Kd.C_take (m := ((l0.length : Int) : Int).toNat) hC29 (by omega)
       have hy29 : y150.length = ((l0.length : Int) : Int).toNat := (by rw [Ny150.out, List.length_take]; omega)
       rw [← Ny150.out] at hr29
       rw [← hy29] at hcut29
       have HR153 := Aside0.mk hr29
       have HC153 := Aside0.mk (show y150.length ≤ co30 from by omega)
       clear hr29 hC29 hroom29 hi029 hsz29
       have KY29 := Aside0.mk hy29
       clear hy29
       have KL29 := Aside0.mk (show ((l0.length : Int) : Int).toNat ≤ y141.length from by omega)
       replace q29 := eq_true q29
       have q31 : ((l0.length : Int) : Int) ≤ ((y141.length : Int) : Int) := of_decide_eq_true (by first | (with_reducible assumption) | assumption)
       obtain ⟨i031, hi031, _, hsz31, _⟩ := info_parts info5
       have hroom31 : y141.length ≤ co30 := (Kd.R_reads' HO143.out).2.1
       have hC31 : Kd.C (Kd.int .u8) _ Ao30 y141.length y141 := (Kd.R_reads' HO143.out).2.2
       have hcut31 := cut_to (P := Try.prog) 22 5 .i64 Try.underlying22 hi031 Ao30 y141.length co30 (l0.length : Int) (of_decide_eq_true (by first | (with_reducible assumption) | assumption)) q31 hroom31
       have hr31 := Kd.C_take (m := ((l0.length : Int) : Int).toNat) hC31 (by omega)
       have hy31 : y150.length = ((l0.length : Int) : Int).toNat := (by rw [Ny157.out, List.length_take]; omega)
       rw [← Ny157.out] at hr31
       rw [← hy31] at hcut31
       have HR160 := Aside0.mk hr31
       have HC160 := Aside0.mk (show y150.length ≤ co30 from by omega)
       clear hr31 hC31 hroom31 hi031 hsz31
       have KY31 := Aside0.mk hy31
       clear hy31
       have KL31 := Aside0.mk (show ((l0.length : Int) : Int).toNat ≤ y141.length from by omega)
       replace q31 := eq_true q31
       refine start_ (n := 14) (S := fun w' => True) (ds := []) #[false, false, false, false, false, false, false, false, false, false, false, false, false, false] (by kernel_rfl) rfl rfl trivial (fun hHeld => ?_); refine with_tabW furlonglaw03_StripKeeps.tab5 furlonglaw03_StripKeeps.bits5 (fun HT_ HW_ => ?_)
       generalize w27.drew = w28 at HO140 HO143 HO149 HB HR153 HR160 hHeld ⊢
       refine pure_ (i := 0) (N := some 35) (v := ?_) (a' := ?_) #[true, false, false, false, false, false, false, false, false, false, false, false, false, false] rfl rfl (any_of HT_.out (by kernel_rfl)) (fun _ _ _ h => h) (Or.inl ⟨by rfl, ?_⟩) ?_ ?_
       rotate_left
       ·intro w'
        go_simp
        with_reducible rfl
       rotate_left
       ·simp only [Act.put, List.setIfInBounds_toArray, List.set_cons_zero, List.set_cons_succ, i64_w, i32_w]
        rfl
       refine pure_ (i := 1) (N := some 36) (v := ?_) (a' := ?_) #[true, true, false, false, false, false, false, false, false, false, false, false, false, false] rfl rfl (any_of HT_.out (by kernel_rfl)) (fun _ _ _ h => h) (Or.inl ⟨by rfl, ?_⟩) ?_ ?_
       rotate_left
       ·intro w'
        go_simp
        with_reducible rfl
       rotate_left
       ·simp only [Act.put, List.setIfInBounds_toArray, List.set_cons_zero, List.set_cons_succ, i64_w, i32_w]
        rfl
       refine pure_ (i := 2) (N := some 37) (v := ?_) (a' := ?_) #[true, true, true, false, false, false, false, false, false, false, false, false, false, false] rfl rfl (any_of HT_.out (by kernel_rfl)) (fun _ _ _ h => h) (Or.inl ⟨by rfl, ?_⟩) ?_ ?_
       rotate_left
       ·intro w'
        go_simp
        with_reducible rfl
       rotate_left
       ·simp only [Act.put, List.setIfInBounds_toArray, List.set_cons_zero, List.set_cons_succ, i64_w, i32_w]
        rfl
       refine pure_ (i := 3) (N := some 38) (v := ?_) (a' := ?_) #[true, true, true, true, false, false, false, false, false, false, false, false, false, false] rfl rfl (any_of HT_.out (by kernel_rfl)) (fun _ _ _ h => h) (Or.inl ⟨by rfl, ?_⟩) ?_ ?_
       rotate_left
       ·intro w'
        go_simp
        with_reducible rfl
       rotate_left
       ·simp only [Act.put, List.setIfInBounds_toArray, List.set_cons_zero, List.set_cons_succ, i64_w, i32_w]
        rfl
       refine pure_ (i := 4) (N := some 39) (v := ?_) (a' := ?_) #[true, true, true, true, true, false, false, false, false, false, false, false, false, false] rfl rfl (any_of HT_.out (by kernel_rfl)) (fun _ _ _ h => h) (Or.inl ⟨by rfl, ?_⟩) ?_ ?_
       rotate_left
       ·intro w'
        go_simp
        with_reducible rfl
       rotate_left
       ·simp only [Act.put, List.setIfInBounds_toArray, List.set_cons_zero, List.set_cons_succ, i64_w, i32_w]
        rfl
       refine pure_ (i := 6) (N := some 41) (v := ?_) (a' := ?_) #[true, true, true, true, true, false, true, false, false, false, false, false, false, false] rfl rfl (any_of HT_.out (by kernel_rfl)) (fun _ _ _ h => h) (Or.inl ⟨by rfl, ?_⟩) ?_ ?_
       rotate_left
       ·intro w'
        go_simp
        with_reducible rfl
       rotate_left
       ·simp only [Act.put, List.setIfInBounds_toArray, List.set_cons_zero, List.set_cons_succ, i64_w, i32_w]
        rfl
       refine pure_ (i := 7) (N := some 42) (v := ?_) (a' := ?_) #[true, true, true, true, true, false, true, true, false, false, false, false, false, false] rfl rfl (any_of HT_.out (by kernel_rfl)) (fun _ _ _ h => h) (Or.inl ⟨by rfl, ?_⟩) ?_ ?_
       rotate_left
       ·intro w'
        go_simp
        with_reducible rfl
       rotate_left
       ·simp only [Act.put, List.setIfInBounds_toArray, List.set_cons_zero, List.set_cons_succ, i64_w, i32_w]
        rfl
       refine pure_ (i := 8) (N := some 43) (v := ?_) (a' := ?_) #[true, true, true, true, true, false, true, true, true, false, false, false, false, false] rfl rfl (any_of HT_.out (by kernel_rfl)) (fun _ _ _ h => h) (Or.inl ⟨by rfl, ?_⟩) ?_ ?_
       rotate_left
       ·intro w'
        go_simp
        with_reducible rfl
       rotate_left
       ·simp only [Act.put, List.setIfInBounds_toArray, List.set_cons_zero, List.set_cons_succ, i64_w, i32_w]
        rfl
       refine pure_ (i := 9) (N := some 44) (v := ?_) (a' := ?_) #[true, true, true, true, true, false, true, true, true, true, false, false, false, false] rfl rfl (any_of HT_.out (by kernel_rfl)) (fun _ _ _ h => h) (Or.inl ⟨by rfl, ?_⟩) ?_ ?_
       rotate_left
       ·intro w'
        go_simp
        with_reducible rfl
       rotate_left
       ·simp only [Act.put, List.setIfInBounds_toArray, List.set_cons_zero, List.set_cons_succ, i64_w, i32_w]
        rfl
       refine pure_ (i := 10) (N := some 45) (v := ?_) (a' := ?_) #[true, true, true, true, true, false, true, true, true, true, true, false, false, false] rfl rfl (any_of HT_.out (by kernel_rfl)) (fun _ _ _ h => h) (Or.inl ⟨by rfl, ?_⟩) ?_ ?_
       rotate_left
       ·intro w'
        go_simp
        with_reducible rfl
       rotate_left
       ·simp only [Act.put, List.setIfInBounds_toArray, List.set_cons_zero, List.set_cons_succ, i64_w, i32_w]
        rfl
       refine one_ (i := 5) (N := some 40) #[true, true, true, true, true, true, true, true, true, true, true, false, false, false] rfl rfl (one_of HT_.out (by kernel_rfl)) (by decide) (fun K hK => ?_)
       refine goes_ Try.func17 (by kernel_rfl) rfl #[.slice Ao30 y150.length co30, .int .u64 a2] (by rfl) rfl rfl (by (try simp only [List.map_toArray, List.map_cons, List.map_nil]); first | done | rfl | (simp only [List.length_drop, List.length_take]; rfl)) ?_
       with_reducible refine (strip_Lay.calls _ _ y150 a2 t154 _ ?side1 ?side2 A11.out).mono ?_
       (case side1 => repeat (first | exact (by repeat (first | (with_reducible exact HR153.out) | (with_reducible refine Kd.C_alloc ?_ _) | (with_reducible refine Kd.C_drewN ?_ _) | (with_reducible refine Kd.C_drew ?_) | exact HR153.out)) | (with_reducible refine Kd.C_alloc ?_ _) | (with_reducible refine Kd.C_drewN ?_ _) | (with_reducible refine Kd.C_drew ?_)))
       (case side2 => exact HC153.out)
       rintro e w32 ⟨v155, rfl, ho0, hb⟩
       refine ⟨_, rfl, ?_⟩
       have n0_ := Aside0.mk (Kd.R_elder' (by (with_reducible repeat (first | apply Kd.R_alloc | apply Kd.R_drewN | apply Kd.R_drew)); exact HO140.out) (Kd.R_base ho0) hb)
       have n1_ := Aside0.mk (Kd.R_elder' (by (with_reducible repeat (first | apply Kd.R_alloc | apply Kd.R_drewN | apply Kd.R_drew)); exact HO143.out) (Kd.R_base ho0) hb)
       have n2_ := Aside0.mk (Kd.R_elder' (by (with_reducible repeat (first | apply Kd.R_alloc | apply Kd.R_drewN | apply Kd.R_drew)); exact HO149.out) (Kd.R_base ho0) hb)
       have n3_ := Aside0.mk (Kd.R_lower (Kd.R_new' (Kd.R_new' (Kd.R_new' ho0 (Kd.R_lt (by (with_reducible repeat (first | apply Kd.R_alloc | apply Kd.R_drewN | apply Kd.R_drew)); exact HO140.out))) (Kd.R_lt (by (with_reducible repeat (first | apply Kd.R_alloc | apply Kd.R_drewN | apply Kd.R_drew)); exact HO143.out))) (Kd.R_lt (by (with_reducible repeat (first | apply Kd.R_alloc | apply Kd.R_drewN | apply Kd.R_drew)); exact HO149.out))) (below_size (by repeat (first | (with_reducible first | exact HB.out | apply below_alloc | apply pw_below_drewN | apply below_drew1) | exact HB.out))))
       have n4_ := Aside0.mk (Kd.C_below (by repeat (first | (with_reducible exact HR153.out) | (with_reducible refine Kd.C_alloc ?_ _) | (with_reducible refine Kd.C_drewN ?_ _) | (with_reducible refine Kd.C_drew ?_) | exact HR153.out)) hb)
       have n5_ := Aside0.mk (Kd.C_below (by repeat (first | (with_reducible exact HR160.out) | (with_reducible refine Kd.C_alloc ?_ _) | (with_reducible refine Kd.C_drewN ?_ _) | (with_reducible refine Kd.C_drew ?_) | exact HR160.out)) hb)
       have n6_ := Aside0.mk (below_step (by repeat (first | (with_reducible first | exact HB.out | apply below_alloc | apply pw_below_drewN | apply below_drew1) | exact HB.out)) hb)
       clear HO140
       clear HO143
       clear HO149
       clear HR153
       clear HR160
       clear HB
       have HO140 := n0_
       have HO143 := n1_
       have HO149 := n2_
       have HO156 := n3_
       have HR153 := n4_
       have HR160 := n5_
       have HB := n6_
       clear n0_ n1_ n2_ n3_ n4_ n5_ n6_
       (try clear hb)
       (try clear hb2)
       (try clear hk)
       (try clear hi)
       (try clear ho0)
       obtain ⟨Ao33, co33, eo33⟩ := Kd.R_slice HO149.out
       (first | subst eo33 | (injection eo33 with f1_ f2_ f3_; have f4_ := f1_.symm; have f5_ := f3_.symm; clear f1_ f2_ f3_; subst f4_; subst f5_))
       refine hK.out _ _ trivial (fun hHeld => ?_)
       clear hK K
       refine norm_ (a' := ?_) ?_ ?_
       rotate_left
       ·show Act.put _ (some 40) _ = _
        simp only [Act.put, List.setIfInBounds_toArray, List.set_cons_zero, List.set_cons_succ, i64_w, i32_w]
        rfl
       refine one_ (i := 11) (N := some 46) #[true, true, true, true, true, true, true, true, true, true, true, true, false, false] rfl rfl (one_of HT_.out (by kernel_rfl)) (by decide) (fun K hK => ?_)
       refine goes_ Try.func25 (by kernel_rfl) rfl #[.slice Ao30 y150.length co30, .slice Ao33 y147.length co33] (by rfl) rfl rfl (by (try simp only [List.map_toArray, List.map_cons, List.map_nil]); first | done | rfl | (simp only [List.length_drop, List.length_take]; rfl)) ?_
       with_reducible refine (strip_LayBytes.calls _ _ y150 _ _ y147 t161 _ ?side1 ?side2 ?side3 ?side4 A14.out).mono ?_
       (case side1 => repeat (first | exact (by repeat (first | (with_reducible exact HR160.out) | (with_reducible refine Kd.C_alloc ?_ _) | (with_reducible refine Kd.C_drewN ?_ _) | (with_reducible refine Kd.C_drew ?_) | exact HR160.out)) | (with_reducible refine Kd.C_alloc ?_ _) | (with_reducible refine Kd.C_drewN ?_ _) | (with_reducible refine Kd.C_drew ?_)))
       (case side2 => exact HC160.out)
       (case side3 => repeat (first | exact (Kd.R_reads' HO149.out).2.2 | (with_reducible refine Kd.C_alloc ?_ _) | (with_reducible refine Kd.C_drewN ?_ _) | (with_reducible refine Kd.C_drew ?_)))
       (case side4 => exact (Kd.R_reads' HO149.out).2.1)
       rintro e w34 ⟨v162, rfl, ho0, hb⟩
       refine ⟨_, rfl, ?_⟩
       have n0_ := Aside0.mk (Kd.R_elder' (by (with_reducible repeat (first | apply Kd.R_alloc | apply Kd.R_drewN | apply Kd.R_drew)); exact HO140.out) (Kd.R_base ho0) hb)
       have n1_ := Aside0.mk (Kd.R_elder' (by (with_reducible repeat (first | apply Kd.R_alloc | apply Kd.R_drewN | apply Kd.R_drew)); exact HO143.out) (Kd.R_base ho0) hb)
       have n2_ := Aside0.mk (Kd.R_elder' (by (with_reducible repeat (first | apply Kd.R_alloc | apply Kd.R_drewN | apply Kd.R_drew)); exact HO149.out) (Kd.R_base ho0) hb)
       have n3_ := Aside0.mk (Kd.R_elder' (by (with_reducible repeat (first | apply Kd.R_alloc | apply Kd.R_drewN | apply Kd.R_drew)); exact HO156.out) (Kd.R_base ho0) hb)
       have n4_ := Aside0.mk (Kd.R_lower (Kd.R_new' (Kd.R_new' (Kd.R_new' (Kd.R_new' ho0 (Kd.R_lt (by (with_reducible repeat (first | apply Kd.R_alloc | apply Kd.R_drewN | apply Kd.R_drew)); exact HO140.out))) (Kd.R_lt (by (with_reducible repeat (first | apply Kd.R_alloc | apply Kd.R_drewN | apply Kd.R_drew)); exact HO143.out))) (Kd.R_lt (by (with_reducible repeat (first | apply Kd.R_alloc | apply Kd.R_drewN | apply Kd.R_drew)); exact HO149.out))) (Kd.R_lt (by (with_reducible repeat (first | apply Kd.R_alloc | apply Kd.R_drewN | apply Kd.R_drew)); exact HO156.out))) (below_size (by repeat (first | (with_reducible first | exact HB.out | apply below_alloc | apply pw_below_drewN | apply below_drew1) | exact HB.out))))
       have n5_ := Aside0.mk (Kd.C_below (by repeat (first | (with_reducible exact HR153.out) | (with_reducible refine Kd.C_alloc ?_ _) | (with_reducible refine Kd.C_drewN ?_ _) | (with_reducible refine Kd.C_drew ?_) | exact HR153.out)) hb)
       have n6_ := Aside0.mk (Kd.C_below (by repeat (first | (with_reducible exact HR160.out) | (with_reducible refine Kd.C_alloc ?_ _) | (with_reducible refine Kd.C_drewN ?_ _) | (with_reducible refine Kd.C_drew ?_) | exact HR160.out)) hb)
       have n7_ := Aside0.mk (below_step (by repeat (first | (with_reducible first | exact HB.out | apply below_alloc | apply pw_below_drewN | apply below_drew1) | exact HB.out)) hb)
       clear HO140
       clear HO143
       clear HO149
       clear HO156
       clear HR153
       clear HR160
       clear HB
       have HO140 := n0_
       have HO143 := n1_
       have HO149 := n2_
       have HO156 := n3_
       have HO163 := n4_
       have HR153 := n5_
       have HR160 := n6_
       have HB := n7_
       clear n0_ n1_ n2_ n3_ n4_ n5_ n6_ n7_
       (try clear hb)
       (try clear hb2)
       (try clear hk)
       (try clear hi)
       (try clear ho0)
       refine hK.out _ _ trivial (fun hHeld => ?_)
       clear hK K
       refine norm_ (a' := ?_) ?_ ?_
       rotate_left
       ·show Act.put _ (some 46) _ = _
        simp only [Act.put, List.setIfInBounds_toArray, List.set_cons_zero, List.set_cons_succ, i64_w, i32_w]
        rfl
       refine pure_ (i := 12) (N := some 9) (v := ?_) (a' := ?_) #[true, true, true, true, true, true, true, true, true, true, true, true, true, false] rfl rfl (any_of HT_.out (by kernel_rfl)) (fun _ _ _ h => h) (Or.inl ⟨by rfl, ?_⟩) ?_ ?_
       rotate_left
       ·intro w'
        go_simp
        with_reducible rfl
       rotate_left
       ·simp only [Act.put, List.setIfInBounds_toArray, List.set_cons_zero, List.set_cons_succ, i64_w, i32_w]
        rfl
       refine pure_ (i := 13) (N := some 10) (v := ?_) (a' := ?_) #[true, true, true, true, true, true, true, true, true, true, true, true, true, true] rfl rfl (any_of HT_.out (by kernel_rfl)) (fun _ _ _ h => h) (Or.inl ⟨by rfl, ?_⟩) ?_ ?_
       rotate_left
       ·intro w'
        go_simp
        with_reducible rfl
       rotate_left
       ·simp only [Act.put, List.setIfInBounds_toArray, List.set_cons_zero, List.set_cons_succ, i64_w, i32_w]
        rfl
       refine done_ (done_of HT_.out (by kernel_rfl)) ?_
       go_upto_region 7 with (first | ((with_reducible refine gate_callee (f := 12) rfl ?_); refine goesL_ (some 49) rfl rfl Try.func12 (by kernel_rfl) rfl #[.slice Ao33 y147.length co33] rfl (by (try simp only [List.map_toArray, List.map_cons, List.map_nil]); first | done | rfl | (simp only [List.length_drop, List.length_take]; rfl)) ?_; (with_reducible refine (strip_Guard.calls _ _ y147 t164 t165 _ ?side1 ?side2 A15.out).mono ?_); (case side1 => repeat (first | exact (Kd.R_reads' HO149.out).2.2 | (with_reducible refine Kd.C_alloc ?_ _) | (with_reducible refine Kd.C_drewN ?_ _) | (with_reducible refine Kd.C_drew ?_))); (case side2 => exact (Kd.R_reads' HO149.out).2.1); rintro e w35 ⟨v166, rfl, ho0, hb⟩; refine ⟨_, rfl, ?_⟩; have n0_ := Aside0.mk (Kd.R_elder' (by (with_reducible repeat (first | apply Kd.R_alloc | apply Kd.R_drewN | apply Kd.R_drew)); exact HO140.out) (Kd.R_base ho0) hb); have n1_ := Aside0.mk (Kd.R_elder' (by (with_reducible repeat (first | apply Kd.R_alloc | apply Kd.R_drewN | apply Kd.R_drew)); exact HO143.out) (Kd.R_base ho0) hb); have n2_ := Aside0.mk (Kd.R_elder' (by (with_reducible repeat (first | apply Kd.R_alloc | apply Kd.R_drewN | apply Kd.R_drew)); exact HO149.out) (Kd.R_base ho0) hb); have n3_ := Aside0.mk (Kd.R_elder' (by (with_reducible repeat (first | apply Kd.R_alloc | apply Kd.R_drewN | apply Kd.R_drew)); exact HO156.out) (Kd.R_base ho0) hb); have n4_ := Aside0.mk (Kd.R_elder' (by (with_reducible repeat (first | apply Kd.R_alloc | apply Kd.R_drewN | apply Kd.R_drew)); exact HO163.out) (Kd.R_base ho0) hb); have n5_ := Aside0.mk (Kd.R_lower (Kd.R_new' (Kd.R_new' (Kd.R_new' (Kd.R_new' (Kd.R_new' ho0 (Kd.R_lt (by (with_reducible repeat (first | apply Kd.R_alloc | apply Kd.R_drewN | apply Kd.R_drew)); exact HO140.out))) (Kd.R_lt (by (with_reducible repeat (first | apply Kd.R_alloc | apply Kd.R_drewN | apply Kd.R_drew)); exact HO143.out))) (Kd.R_lt (by (with_reducible repeat (first | apply Kd.R_alloc | apply Kd.R_drewN | apply Kd.R_drew)); exact HO149.out))) (Kd.R_lt (by (with_reducible repeat (first | apply Kd.R_alloc | apply Kd.R_drewN | apply Kd.R_drew)); exact HO156.out))) (Kd.R_lt (by (with_reducible repeat (first | apply Kd.R_alloc | apply Kd.R_drewN | apply Kd.R_drew)); exact HO163.out))) (below_size (by repeat (first | (with_reducible first | exact HB.out | apply below_alloc | apply pw_below_drewN | apply below_drew1) | exact HB.out)))); have n6_ := Aside0.mk (Kd.C_below (by repeat (first | (with_reducible exact HR153.out) | (with_reducible refine Kd.C_alloc ?_ _) | (with_reducible refine Kd.C_drewN ?_ _) | (with_reducible refine Kd.C_drew ?_) | exact HR153.out)) hb); have n7_ := Aside0.mk (Kd.C_below (by repeat (first | (with_reducible exact HR160.out) | (with_reducible refine Kd.C_alloc ?_ _) | (with_reducible refine Kd.C_drewN ?_ _) | (with_reducible refine Kd.C_drew ?_) | exact HR160.out)) hb); have n8_ := Aside0.mk (below_step (by repeat (first | (with_reducible first | exact HB.out | apply below_alloc | apply pw_below_drewN | apply below_drew1) | exact HB.out)) hb); clear HO140; clear HO143; clear HO149; clear HO156; clear HO163; clear HR153; clear HR160; clear HB; have HO140 := n0_; have HO143 := n1_; have HO149 := n2_; have HO156 := n3_; have HO163 := n4_; have HO167 := n5_; have HR153 := n6_; have HR160 := n7_; have HB := n8_; clear n0_ n1_ n2_ n3_ n4_ n5_ n6_ n7_ n8_; (try clear hb); (try clear hb2); (try clear hk); (try clear hi); (try clear ho0)))
       (try simp only [Act.put, List.setIfInBounds_toArray, List.set_cons_zero, List.set_cons_succ])
       go_cut [73] (fun v73 wc => ∃ (kq : Nat) (x73_15 : Bool), v73 = .bool x73_15 ∧ Aside0 (furlonglaw03_StripKeeps.j0 kq l0 l1 y141 y147 t154 t161 t164 x73_15 = some r) ∧ Aside0 (kq ≤ k) ∧ Aside0 (Kd.R (Kd.int .u8) 5 wc w.heap.size (fun k_ => some k_ ≠ ((.slice Ao33 y147.length co33) : Value).ownBlock ∧ some k_ ≠ (v155 : Value).ownBlock ∧ some k_ ≠ (v162 : Value).ownBlock ∧ some k_ ≠ (v166 : Value).ownBlock) (.slice Ao30 y141.length co30) y141) ∧ Aside0 (Kd.R (Kd.int .u8) 5 wc w.heap.size (fun k_ => some k_ ≠ ((.slice Ao30 y141.length co30) : Value).ownBlock ∧ some k_ ≠ (v155 : Value).ownBlock ∧ some k_ ≠ (v162 : Value).ownBlock ∧ some k_ ≠ (v166 : Value).ownBlock) (.slice Ao33 y147.length co33) y147) ∧ Aside0 (Kd.R (Kd.int .u8) 5 wc w.heap.size (fun k_ => some k_ ≠ ((.slice Ao30 y141.length co30) : Value).ownBlock ∧ some k_ ≠ ((.slice Ao33 y147.length co33) : Value).ownBlock ∧ some k_ ≠ (v162 : Value).ownBlock ∧ some k_ ≠ (v166 : Value).ownBlock) v155 t154) ∧ Aside0 (Kd.R (Kd.int .u8) 5 wc w.heap.size (fun k_ => some k_ ≠ ((.slice Ao30 y141.length co30) : Value).ownBlock ∧ some k_ ≠ ((.slice Ao33 y147.length co33) : Value).ownBlock ∧ some k_ ≠ (v155 : Value).ownBlock ∧ some k_ ≠ (v166 : Value).ownBlock) v162 t161) ∧ Aside0 (Kd.R (Kd.int .u8) 5 wc w.heap.size (fun k_ => some k_ ≠ ((.slice Ao30 y141.length co30) : Value).ownBlock ∧ some k_ ≠ ((.slice Ao33 y147.length co33) : Value).ownBlock ∧ some k_ ≠ (v155 : Value).ownBlock ∧ some k_ ≠ (v162 : Value).ownBlock) v166 t164) ∧ Aside0 (Kd.C (Kd.int .u8) wc Ao30 y150.length y150) ∧ Aside0 (Kd.C (Kd.int .u8) wc Ao30 y150.length y150) ∧ Aside0 (Below w.heap.size w wc))
       case first =>
        have H := HC16.out
        clear HC16
        obtain ⟨y168, hy168⟩ : ∃ y_ : List Int, y_ = (([] : List Int)) := ⟨_, rfl⟩
        replace H : (if y168.length + l0.length < 140737488355328 then ((some (y168 ++ l0 : List Int)).bind fun y171 => ((some (([71, 72] : List Int) : List Int)).bind fun y174 => (if y171.length + y174.length < 140737488355328 then ((furlongref01_Bytes.f y141 (y171 ++ y174)).bind fun t180 => (if t180 = true then ((furlongref01_Bytes.f y147 l1).bind fun t181 => (if t181 = true then (furlonglaw03_StripKeeps.j0 k l0 l1 y141 y147 t154 t161 t164 ((t165 == 0) != (decide ((l1.length : Int) ≤ 60000)))) else (furlonglaw03_StripKeeps.j0 k l0 l1 y141 y147 t154 t161 t164 true))) else (furlonglaw03_StripKeeps.j0 k l0 l1 y141 y147 t154 t161 t164 true))) else (none)))) else (none)) = some r := by first | (rw [hy168]; with_reducible exact H) | (have H2_ := (Option.bind_some _ _).symm.trans H; rw [hy168]; with_reducible exact H2_) | (have H2_ := (Option.bind_some _ _).symm.trans H; with_reducible exact H2_) | with_reducible exact H | (rw [hy168]; exact H) | exact H
        have Ny168 := Aside0.mk hy168
        clear hy168
        by_cases c36 : y168.length + l0.length < 140737488355328
        ·rw [if_pos c36] at H
         have LMc36 := Aside0.mk c36
         clear c36
         obtain ⟨y171, hy171⟩ : ∃ y_ : List Int, y_ = (y168 ++ l0) := ⟨_, rfl⟩
         replace H : ((some (([71, 72] : List Int) : List Int)).bind fun y174 => (if y171.length + y174.length < 140737488355328 then ((furlongref01_Bytes.f y141 (y171 ++ y174)).bind fun t180 => (if t180 = true then ((furlongref01_Bytes.f y147 l1).bind fun t181 => (if t181 = true then (furlonglaw03_StripKeeps.j0 k l0 l1 y141 y147 t154 t161 t164 ((t165 == 0) != (decide ((l1.length : Int) ≤ 60000)))) else (furlonglaw03_StripKeeps.j0 k l0 l1 y141 y147 t154 t161 t164 true))) else (furlonglaw03_StripKeeps.j0 k l0 l1 y141 y147 t154 t161 t164 true))) else (none))) = some r := by first | (rw [hy171]; with_reducible exact H) | (have H2_ := (Option.bind_some _ _).symm.trans H; rw [hy171]; with_reducible exact H2_) | (have H2_ := (Option.bind_some _ _).symm.trans H; with_reducible exact H2_) | with_reducible exact H | (rw [hy171]; exact H) | exact H
         have Ny171 := Aside0.mk hy171
         clear hy171
         obtain ⟨y174, hy174⟩ : ∃ y_ : List Int, y_ = (([71, 72] : List Int)) := ⟨_, rfl⟩
         replace H : (if y171.length + y174.length < 140737488355328 then ((furlongref01_Bytes.f y141 (y171 ++ y174)).bind fun t180 => (if t180 = true then ((furlongref01_Bytes.f y147 l1).bind fun t181 => (if t181 = true then (furlonglaw03_StripKeeps.j0 k l0 l1 y141 y147 t154 t161 t164 ((t165 == 0) != (decide ((l1.length : Int) ≤ 60000)))) else (furlonglaw03_StripKeeps.j0 k l0 l1 y141 y147 t154 t161 t164 true))) else (furlonglaw03_StripKeeps.j0 k l0 l1 y141 y147 t154 t161 t164 true))) else (none)) = some r := by first | (rw [hy174]; with_reducible exact H) | (have H2_ := (Option.bind_some _ _).symm.trans H; rw [hy174]; with_reducible exact H2_) | (have H2_ := (Option.bind_some _ _).symm.trans H; with_reducible exact H2_) | with_reducible exact H | (rw [hy174]; exact H) | exact H
         have Ny174 := Aside0.mk hy174
         clear hy174
         by_cases c37 : y171.length + y174.length < 140737488355328
         ·rw [if_pos c37] at H
          have LMc37 := Aside0.mk c37
          clear c37
          obtain ⟨y177, hy177⟩ : ∃ y_ : List Int, y_ = (y171 ++ y174) := ⟨_, rfl⟩
          replace H : ((furlongref01_Bytes.f y141 y177).bind fun t180 => (if t180 = true then ((furlongref01_Bytes.f y147 l1).bind fun t181 => (if t181 = true then (furlonglaw03_StripKeeps.j0 k l0 l1 y141 y147 t154 t161 t164 ((t165 == 0) != (decide ((l1.length : Int) ≤ 60000)))) else (furlonglaw03_StripKeeps.j0 k l0 l1 y141 y147 t154 t161 t164 true))) else (furlonglaw03_StripKeeps.j0 k l0 l1 y141 y147 t154 t161 t164 true))) = some r := by first | (rw [hy177]; with_reducible exact H) | (have H2_ := (Option.bind_some _ _).symm.trans H; rw [hy177]; with_reducible exact H2_) | (have H2_ := (Option.bind_some _ _).symm.trans H; with_reducible exact H2_) | with_reducible exact H | (rw [hy177]; exact H) | exact H
          have Ny177 := Aside0.mk hy177
          clear hy177
          replace H := Option.bind_eq_some_iff.mp H
          obtain ⟨t180, A380, H⟩ := H
          replace H : (if t180 = true then ((furlongref01_Bytes.f y147 l1).bind fun t181 => (if t181 = true then (furlonglaw03_StripKeeps.j0 k l0 l1 y141 y147 t154 t161 t164 ((t165 == 0) != (decide ((l1.length : Int) ≤ 60000)))) else (furlonglaw03_StripKeeps.j0 k l0 l1 y141 y147 t154 t161 t164 true))) else (furlonglaw03_StripKeeps.j0 k l0 l1 y141 y147 t154 t161 t164 true)) = some r := H
          have A38 := Aside0.mk A380
          clear A380
          by_cases c39 : t180 = true
          ·subst c39
           have H1 : ((furlongref01_Bytes.f y147 l1).bind fun t181 => (if t181 = true then (furlonglaw03_StripKeeps.j0 k l0 l1 y141 y147 t154 t161 t164 ((t165 == 0) != (decide ((l1.length : Int) ≤ 60000)))) else (furlonglaw03_StripKeeps.j0 k l0 l1 y141 y147 t154 t161 t164 true))) = some r := by rw [if_pos rfl] at H; exact H
           clear H
           have H := H1
           clear H1
           replace H := Option.bind_eq_some_iff.mp H
           obtain ⟨t181, A400, H⟩ := H
           replace H : (if t181 = true then (furlonglaw03_StripKeeps.j0 k l0 l1 y141 y147 t154 t161 t164 ((t165 == 0) != (decide ((l1.length : Int) ≤ 60000)))) else (furlonglaw03_StripKeeps.j0 k l0 l1 y141 y147 t154 t161 t164 true)) = some r := H
           have A40 := Aside0.mk A400
           clear A400
           by_cases c41 : t181 = true
           ·subst c41
            have H1 : (furlonglaw03_StripKeeps.j0 k l0 l1 y141 y147 t154 t161 t164 ((t165 == 0) != (decide ((l1.length : Int) ≤ 60000)))) = some r := by rw [if_pos rfl] at H; exact H
            clear H
            have H := H1
            clear H1
            have H' := Aside0.mk H
            clear H
            go_wp2_with (first | ((with_reducible refine gate_dst (N := 53) rfl ?_); (try (refine gate_guard (by rfl) ?_; dsimp only)); refine Kd.R_lit (Kd.int .u8) _ 5 ?hg (N := 53) ?hd (xs := ([] : List Int)) (inner := []) (ok := fun _ => True) (okp := fun _ => True) ?hr ?hp (fun _ hk => hk) trivial (Below.refl _ _) (Nat.le_refl _) (by simp) ?_; (case hd => rfl); (case hg => rfl); (case hr => first | (go_simp; done) | (go_simp; rfl)); (case hp => exact (Reps.none _ _)); intro v169 w42 ho43 hb hg_ hnew_; clear hg_ hnew_; (first | rw [← Ny168.out] at ho43 | (simp only [Int.reduceToNat] at ho43; rw [← Ny168.out] at ho43)); have n0_ := Aside0.mk (Kd.R_elder' (by (with_reducible repeat (first | apply Kd.R_alloc | apply Kd.R_drewN | apply Kd.R_drew)); exact HO140.out) (Kd.R_base ho43) hb); have n1_ := Aside0.mk (Kd.R_elder' (by (with_reducible repeat (first | apply Kd.R_alloc | apply Kd.R_drewN | apply Kd.R_drew)); exact HO143.out) (Kd.R_base ho43) hb); have n2_ := Aside0.mk (Kd.R_elder' (by (with_reducible repeat (first | apply Kd.R_alloc | apply Kd.R_drewN | apply Kd.R_drew)); exact HO149.out) (Kd.R_base ho43) hb); have n3_ := Aside0.mk (Kd.R_elder' (by (with_reducible repeat (first | apply Kd.R_alloc | apply Kd.R_drewN | apply Kd.R_drew)); exact HO156.out) (Kd.R_base ho43) hb); have n4_ := Aside0.mk (Kd.R_elder' (by (with_reducible repeat (first | apply Kd.R_alloc | apply Kd.R_drewN | apply Kd.R_drew)); exact HO163.out) (Kd.R_base ho43) hb); have n5_ := Aside0.mk (Kd.R_elder' (by (with_reducible repeat (first | apply Kd.R_alloc | apply Kd.R_drewN | apply Kd.R_drew)); exact HO167.out) (Kd.R_base ho43) hb); have n6_ := Aside0.mk (Kd.R_lower (Kd.R_new' (Kd.R_new' (Kd.R_new' (Kd.R_new' (Kd.R_new' (Kd.R_new' ho43 (Kd.R_lt (by (with_reducible repeat (first | apply Kd.R_alloc | apply Kd.R_drewN | apply Kd.R_drew)); exact HO140.out))) (Kd.R_lt (by (with_reducible repeat (first | apply Kd.R_alloc | apply Kd.R_drewN | apply Kd.R_drew)); exact HO143.out))) (Kd.R_lt (by (with_reducible repeat (first | apply Kd.R_alloc | apply Kd.R_drewN | apply Kd.R_drew)); exact HO149.out))) (Kd.R_lt (by (with_reducible repeat (first | apply Kd.R_alloc | apply Kd.R_drewN | apply Kd.R_drew)); exact HO156.out))) (Kd.R_lt (by (with_reducible repeat (first | apply Kd.R_alloc | apply Kd.R_drewN | apply Kd.R_drew)); exact HO163.out))) (Kd.R_lt (by (with_reducible repeat (first | apply Kd.R_alloc | apply Kd.R_drewN | apply Kd.R_drew)); exact HO167.out))) (below_size (by repeat (first | (with_reducible first | exact HB.out | apply below_alloc | apply pw_below_drewN | apply below_drew1) | exact HB.out)))); have n7_ := Aside0.mk (Kd.C_below (by repeat (first | (with_reducible exact HR153.out) | (with_reducible refine Kd.C_alloc ?_ _) | (with_reducible refine Kd.C_drewN ?_ _) | (with_reducible refine Kd.C_drew ?_) | exact HR153.out)) hb); have n8_ := Aside0.mk (Kd.C_below (by repeat (first | (with_reducible exact HR160.out) | (with_reducible refine Kd.C_alloc ?_ _) | (with_reducible refine Kd.C_drewN ?_ _) | (with_reducible refine Kd.C_drew ?_) | exact HR160.out)) hb); have n9_ := Aside0.mk (below_step (by repeat (first | (with_reducible first | exact HB.out | apply below_alloc | apply pw_below_drewN | apply below_drew1) | exact HB.out)) hb); clear HO140; clear HO143; clear HO149; clear HO156; clear HO163; clear HO167; clear HR153; clear HR160; clear HB; have HO140 := n0_; have HO143 := n1_; have HO149 := n2_; have HO156 := n3_; have HO163 := n4_; have HO167 := n5_; have HO170 := n6_; have HR153 := n7_; have HR160 := n8_; have HB := n9_; clear n0_ n1_ n2_ n3_ n4_ n5_ n6_ n7_ n8_ n9_; clear hb ho43) | ((with_reducible refine gate_builtin (b := .append) (xs := #[.tmp 53, .tmp 54]) rfl ?_); (try (refine gate_guard (by rfl) ?_; dsimp only)); at_builtin; refine Kd.R_append_rows (Kd.int .u8) (w0 := w) w.heap.size rfl (.tmp 53) (.tmp 54) 22 5 (.int .u8 0) 1 rfl Try.underlying22 info5 rfl (by decide) (by omega) v169 y168 l0 _ _ _ (fun k_ => some k_ ≠ (.slice Ao24 y138.length co24 : Value).ownBlock ∧ some k_ ≠ (.slice Ao30 y141.length co30 : Value).ownBlock ∧ some k_ ≠ (.slice Ao33 y147.length co33 : Value).ownBlock ∧ some k_ ≠ (v155 : Value).ownBlock ∧ some k_ ≠ (v162 : Value).ownBlock ∧ some k_ ≠ (v166 : Value).ownBlock) (fun _ => False) rfl rfl ?aO ?aR (fun _ _ h => h) (fun _ h => h.elim) ?aF ?aB ?aS ?aL ?_; (case aR => repeat (first | exact (Kd.C_below HR0.out HB.out) | (with_reducible refine Kd.C_alloc ?_ _) | (with_reducible refine Kd.C_drewN ?_ _) | (with_reducible refine Kd.C_drew ?_))); (case aB => exact (by repeat (first | (with_reducible first | exact HB.out | apply below_alloc | apply pw_below_drewN | apply below_drew1) | exact HB.out))); (case aF => exact (fun k_ hk => ⟨Kd.fresh' (Kd.R_lt (by (with_reducible repeat (first | apply Kd.R_alloc | apply Kd.R_drewN | apply Kd.R_drew)); exact HO140.out)) k_ hk, Kd.fresh' (Kd.R_lt (by (with_reducible repeat (first | apply Kd.R_alloc | apply Kd.R_drewN | apply Kd.R_drew)); exact HO143.out)) k_ hk, Kd.fresh' (Kd.R_lt (by (with_reducible repeat (first | apply Kd.R_alloc | apply Kd.R_drewN | apply Kd.R_drew)); exact HO149.out)) k_ hk, Kd.fresh' (Kd.R_lt (by (with_reducible repeat (first | apply Kd.R_alloc | apply Kd.R_drewN | apply Kd.R_drew)); exact HO156.out)) k_ hk, Kd.fresh' (Kd.R_lt (by (with_reducible repeat (first | apply Kd.R_alloc | apply Kd.R_drewN | apply Kd.R_drew)); exact HO163.out)) k_ hk, Kd.fresh' (Kd.R_lt (by (with_reducible repeat (first | apply Kd.R_alloc | apply Kd.R_drewN | apply Kd.R_drew)); exact HO167.out)) k_ hk⟩)); (case aO => exact (by (with_reducible repeat (first | apply Kd.R_alloc | apply Kd.R_drewN | apply Kd.R_drew)); exact Kd.R_mono HO170.out (fun _ hk => ⟨hk.1.1.1.1.1.2, ⟨hk.1.1.1.1.2, ⟨hk.1.1.1.2, ⟨hk.1.1.2, ⟨hk.1.2, hk.2⟩⟩⟩⟩⟩))); (case aS => exact (below_size (by repeat (first | (with_reducible first | exact HB.out | apply below_alloc | apply pw_below_drewN | apply below_drew1) | exact HB.out)))); (case aL => have := LMc36.out; omega); intro v172 w44 ho hb hg hat; rw [← Ny171.out] at ho; have n0_ := Aside0.mk (Kd.R_after (ok := (fun k_ => some k_ ≠ (.slice Ao30 y141.length co30 : Value).ownBlock ∧ some k_ ≠ (.slice Ao33 y147.length co33 : Value).ownBlock ∧ some k_ ≠ (v155 : Value).ownBlock ∧ some k_ ≠ (v162 : Value).ownBlock ∧ some k_ ≠ (v166 : Value).ownBlock)) (by (with_reducible repeat (first | apply Kd.R_alloc | apply Kd.R_drewN | apply Kd.R_drew)); exact Kd.R_mono HO140.out (fun _ hk => ⟨⟨hk.1.1.1.1.1, ⟨hk.1.1.1.1.2, ⟨hk.1.1.1.2, ⟨hk.1.1.2, hk.1.2⟩⟩⟩⟩, hk.2⟩)) hg hat); have n1_ := Aside0.mk (Kd.R_after (ok := (fun k_ => some k_ ≠ (.slice Ao24 y138.length co24 : Value).ownBlock ∧ some k_ ≠ (.slice Ao33 y147.length co33 : Value).ownBlock ∧ some k_ ≠ (v155 : Value).ownBlock ∧ some k_ ≠ (v162 : Value).ownBlock ∧ some k_ ≠ (v166 : Value).ownBlock)) (by (with_reducible repeat (first | apply Kd.R_alloc | apply Kd.R_drewN | apply Kd.R_drew)); exact Kd.R_mono HO143.out (fun _ hk => ⟨⟨hk.1.1.1.1.1, ⟨hk.1.1.1.1.2, ⟨hk.1.1.1.2, ⟨hk.1.1.2, hk.1.2⟩⟩⟩⟩, hk.2⟩)) hg hat); have n2_ := Aside0.mk (Kd.R_after (ok := (fun k_ => some k_ ≠ (.slice Ao24 y138.length co24 : Value).ownBlock ∧ some k_ ≠ (.slice Ao30 y141.length co30 : Value).ownBlock ∧ some k_ ≠ (v155 : Value).ownBlock ∧ some k_ ≠ (v162 : Value).ownBlock ∧ some k_ ≠ (v166 : Value).ownBlock)) (by (with_reducible repeat (first | apply Kd.R_alloc | apply Kd.R_drewN | apply Kd.R_drew)); exact Kd.R_mono HO149.out (fun _ hk => ⟨⟨hk.1.1.1.1.1, ⟨hk.1.1.1.1.2, ⟨hk.1.1.1.2, ⟨hk.1.1.2, hk.1.2⟩⟩⟩⟩, hk.2⟩)) hg hat); have n3_ := Aside0.mk (Kd.R_after (ok := (fun k_ => some k_ ≠ (.slice Ao24 y138.length co24 : Value).ownBlock ∧ some k_ ≠ (.slice Ao30 y141.length co30 : Value).ownBlock ∧ some k_ ≠ (.slice Ao33 y147.length co33 : Value).ownBlock ∧ some k_ ≠ (v162 : Value).ownBlock ∧ some k_ ≠ (v166 : Value).ownBlock)) (by (with_reducible repeat (first | apply Kd.R_alloc | apply Kd.R_drewN | apply Kd.R_drew)); exact Kd.R_mono HO156.out (fun _ hk => ⟨⟨hk.1.1.1.1.1.2, ⟨hk.1.1.1.1.2, ⟨hk.1.1.1.2, ⟨hk.1.1.2, hk.1.2⟩⟩⟩⟩, hk.2⟩)) hg hat); have n4_ := Aside0.mk (Kd.R_after (ok := (fun k_ => some k_ ≠ (.slice Ao24 y138.length co24 : Value).ownBlock ∧ some k_ ≠ (.slice Ao30 y141.length co30 : Value).ownBlock ∧ some k_ ≠ (.slice Ao33 y147.length co33 : Value).ownBlock ∧ some k_ ≠ (v155 : Value).ownBlock ∧ some k_ ≠ (v166 : Value).ownBlock)) (by (with_reducible repeat (first | apply Kd.R_alloc | apply Kd.R_drewN | apply Kd.R_drew)); exact Kd.R_mono HO163.out (fun _ hk => ⟨⟨hk.1.1.1.1.1.2, ⟨hk.1.1.1.1.2, ⟨hk.1.1.1.2, ⟨hk.1.1.2, hk.1.2⟩⟩⟩⟩, hk.2⟩)) hg hat); have n5_ := Aside0.mk (Kd.R_after (ok := (fun k_ => some k_ ≠ (.slice Ao24 y138.length co24 : Value).ownBlock ∧ some k_ ≠ (.slice Ao30 y141.length co30 : Value).ownBlock ∧ some k_ ≠ (.slice Ao33 y147.length co33 : Value).ownBlock ∧ some k_ ≠ (v155 : Value).ownBlock ∧ some k_ ≠ (v162 : Value).ownBlock)) (by (with_reducible repeat (first | apply Kd.R_alloc | apply Kd.R_drewN | apply Kd.R_drew)); exact Kd.R_mono HO167.out (fun _ hk => ⟨⟨hk.1.1.1.1.1.2, ⟨hk.1.1.1.1.2, ⟨hk.1.1.1.2, ⟨hk.1.1.2, hk.1.2⟩⟩⟩⟩, hk.2⟩)) hg hat); have n6_ := Aside0.mk (hb); have n7_ := Aside0.mk ((show Kd.C (Kd.int .u8) w44 Ao30 y150.length y150 from by rw [Ny150.out]; exact Kd.C_take (m := ((l0.length : Int) : Int).toNat) ((Kd.R_reads' (Kd.R_after (ok := (fun k_ => some k_ ≠ (.slice Ao24 y138.length co24 : Value).ownBlock ∧ some k_ ≠ (.slice Ao33 y147.length co33 : Value).ownBlock ∧ some k_ ≠ (v155 : Value).ownBlock ∧ some k_ ≠ (v162 : Value).ownBlock ∧ some k_ ≠ (v166 : Value).ownBlock)) (by (with_reducible repeat (first | apply Kd.R_alloc | apply Kd.R_drewN | apply Kd.R_drew)); exact Kd.R_mono HO143.out (fun _ hk => ⟨⟨hk.1.1.1.1.1, ⟨hk.1.1.1.1.2, ⟨hk.1.1.1.2, ⟨hk.1.1.2, hk.1.2⟩⟩⟩⟩, hk.2⟩)) hg hat)).2.2) KL29.out)); have n8_ := Aside0.mk ((show Kd.C (Kd.int .u8) w44 Ao30 y150.length y150 from by rw [Ny157.out]; exact Kd.C_take (m := ((l0.length : Int) : Int).toNat) ((Kd.R_reads' (Kd.R_after (ok := (fun k_ => some k_ ≠ (.slice Ao24 y138.length co24 : Value).ownBlock ∧ some k_ ≠ (.slice Ao33 y147.length co33 : Value).ownBlock ∧ some k_ ≠ (v155 : Value).ownBlock ∧ some k_ ≠ (v162 : Value).ownBlock ∧ some k_ ≠ (v166 : Value).ownBlock)) (by (with_reducible repeat (first | apply Kd.R_alloc | apply Kd.R_drewN | apply Kd.R_drew)); exact Kd.R_mono HO143.out (fun _ hk => ⟨⟨hk.1.1.1.1.1, ⟨hk.1.1.1.1.2, ⟨hk.1.1.1.2, ⟨hk.1.1.2, hk.1.2⟩⟩⟩⟩, hk.2⟩)) hg hat)).2.2) KL31.out)); have n9_ := Aside0.mk (ho); clear HO140; clear HO143; clear HO149; clear HO156; clear HO163; clear HO167; clear HB; clear HR153; clear HR160; clear HO170; have HO140 := n0_; have HO143 := n1_; have HO149 := n2_; have HO156 := n3_; have HO163 := n4_; have HO167 := n5_; have HB := n6_; have HR153 := n7_; have HR160 := n8_; have HO173 := n9_; clear n0_ n1_ n2_ n3_ n4_ n5_ n6_ n7_ n8_ n9_; clear ho hb hg hat) | ((with_reducible refine gate_dst (N := 56) rfl ?_); (try (refine gate_guard (by rfl) ?_; dsimp only)); refine Kd.R_lit (Kd.int .u8) _ 5 ?hg (N := 56) ?hd (xs := ([71, 72] : List Int)) (inner := [.int .u8 71, .int .u8 72]) (ok := fun _ => True) (okp := fun _ => True) ?hr ?hp (fun _ hk => hk) trivial (Below.refl _ _) (Nat.le_refl _) (by simp) ?_; (case hd => rfl); (case hg => rfl); (case hr => first | (go_simp; done) | (go_simp; rfl)); (case hp => exact (Reps.one (show Kd.M (Kd.int .u8) _ _ _ 71 [.int .u8 71] from rfl) (Reps.one (show Kd.M (Kd.int .u8) _ _ _ 72 [.int .u8 72] from rfl) (Reps.none _ _)))); intro v175 w45 ho46 hb hg_ hnew_; clear hg_ hnew_; (first | rw [← Ny174.out] at ho46 | (simp only [Int.reduceToNat] at ho46; rw [← Ny174.out] at ho46)); have n0_ := Aside0.mk (Kd.R_elder' (by (with_reducible repeat (first | apply Kd.R_alloc | apply Kd.R_drewN | apply Kd.R_drew)); exact HO140.out) (Kd.R_base ho46) hb); have n1_ := Aside0.mk (Kd.R_elder' (by (with_reducible repeat (first | apply Kd.R_alloc | apply Kd.R_drewN | apply Kd.R_drew)); exact HO143.out) (Kd.R_base ho46) hb); have n2_ := Aside0.mk (Kd.R_elder' (by (with_reducible repeat (first | apply Kd.R_alloc | apply Kd.R_drewN | apply Kd.R_drew)); exact HO149.out) (Kd.R_base ho46) hb); have n3_ := Aside0.mk (Kd.R_elder' (by (with_reducible repeat (first | apply Kd.R_alloc | apply Kd.R_drewN | apply Kd.R_drew)); exact HO156.out) (Kd.R_base ho46) hb); have n4_ := Aside0.mk (Kd.R_elder' (by (with_reducible repeat (first | apply Kd.R_alloc | apply Kd.R_drewN | apply Kd.R_drew)); exact HO163.out) (Kd.R_base ho46) hb); have n5_ := Aside0.mk (Kd.R_elder' (by (with_reducible repeat (first | apply Kd.R_alloc | apply Kd.R_drewN | apply Kd.R_drew)); exact HO167.out) (Kd.R_base ho46) hb); have n6_ := Aside0.mk (Kd.R_elder' (by (with_reducible repeat (first | apply Kd.R_alloc | apply Kd.R_drewN | apply Kd.R_drew)); exact HO173.out) (Kd.R_base ho46) hb); have n7_ := Aside0.mk (Kd.R_lower (Kd.R_new' (Kd.R_new' (Kd.R_new' (Kd.R_new' (Kd.R_new' (Kd.R_new' (Kd.R_new' ho46 (Kd.R_lt (by (with_reducible repeat (first | apply Kd.R_alloc | apply Kd.R_drewN | apply Kd.R_drew)); exact HO140.out))) (Kd.R_lt (by (with_reducible repeat (first | apply Kd.R_alloc | apply Kd.R_drewN | apply Kd.R_drew)); exact HO143.out))) (Kd.R_lt (by (with_reducible repeat (first | apply Kd.R_alloc | apply Kd.R_drewN | apply Kd.R_drew)); exact HO149.out))) (Kd.R_lt (by (with_reducible repeat (first | apply Kd.R_alloc | apply Kd.R_drewN | apply Kd.R_drew)); exact HO156.out))) (Kd.R_lt (by (with_reducible repeat (first | apply Kd.R_alloc | apply Kd.R_drewN | apply Kd.R_drew)); exact HO163.out))) (Kd.R_lt (by (with_reducible repeat (first | apply Kd.R_alloc | apply Kd.R_drewN | apply Kd.R_drew)); exact HO167.out))) (Kd.R_lt (by (with_reducible repeat (first | apply Kd.R_alloc | apply Kd.R_drewN | apply Kd.R_drew)); exact HO173.out))) (below_size (by repeat (first | (with_reducible first | exact HB.out | apply below_alloc | apply pw_below_drewN | apply below_drew1) | exact HB.out)))); have n8_ := Aside0.mk (Kd.C_below (by repeat (first | (with_reducible exact HR153.out) | (with_reducible refine Kd.C_alloc ?_ _) | (with_reducible refine Kd.C_drewN ?_ _) | (with_reducible refine Kd.C_drew ?_) | exact HR153.out)) hb); have n9_ := Aside0.mk (Kd.C_below (by repeat (first | (with_reducible exact HR160.out) | (with_reducible refine Kd.C_alloc ?_ _) | (with_reducible refine Kd.C_drewN ?_ _) | (with_reducible refine Kd.C_drew ?_) | exact HR160.out)) hb); have n10_ := Aside0.mk (below_step (by repeat (first | (with_reducible first | exact HB.out | apply below_alloc | apply pw_below_drewN | apply below_drew1) | exact HB.out)) hb); clear HO140; clear HO143; clear HO149; clear HO156; clear HO163; clear HO167; clear HO173; clear HR153; clear HR160; clear HB; have HO140 := n0_; have HO143 := n1_; have HO149 := n2_; have HO156 := n3_; have HO163 := n4_; have HO167 := n5_; have HO173 := n6_; have HO176 := n7_; have HR153 := n8_; have HR160 := n9_; have HB := n10_; clear n0_ n1_ n2_ n3_ n4_ n5_ n6_ n7_ n8_ n9_ n10_; clear hb ho46; obtain ⟨Ao48, co48, eo48⟩ := Kd.R_slice HO176.out; subst eo48) | ((with_reducible refine gate_builtin (b := .append) (xs := #[.tmp 55, .tmp 56]) rfl ?_); (try (refine gate_guard (by rfl) ?_; dsimp only)); at_builtin; refine Kd.R_append_rows (Kd.int .u8) (w0 := w) w.heap.size rfl (.tmp 55) (.tmp 56) 22 5 (.int .u8 0) 1 rfl Try.underlying22 info5 rfl (by decide) (by omega) v172 y171 y174 _ _ _ (fun k_ => some k_ ≠ (.slice Ao24 y138.length co24 : Value).ownBlock ∧ some k_ ≠ (.slice Ao30 y141.length co30 : Value).ownBlock ∧ some k_ ≠ (.slice Ao33 y147.length co33 : Value).ownBlock ∧ some k_ ≠ (v155 : Value).ownBlock ∧ some k_ ≠ (v162 : Value).ownBlock ∧ some k_ ≠ (v166 : Value).ownBlock ∧ some k_ ≠ (.slice Ao48 y174.length co48 : Value).ownBlock) (fun _ => False) rfl rfl ?aO ?aR (fun _ _ h => h) (fun _ h => h.elim) ?aF ?aB ?aS ?aL ?_; (case aR => repeat (first | exact (Kd.R_reads' HO176.out).2.2 | (with_reducible refine Kd.C_alloc ?_ _) | (with_reducible refine Kd.C_drewN ?_ _) | (with_reducible refine Kd.C_drew ?_))); (case aB => exact (by repeat (first | (with_reducible first | exact HB.out | apply below_alloc | apply pw_below_drewN | apply below_drew1) | exact HB.out))); (case aF => exact (fun k_ hk => ⟨Kd.fresh' (Kd.R_lt (by (with_reducible repeat (first | apply Kd.R_alloc | apply Kd.R_drewN | apply Kd.R_drew)); exact HO140.out)) k_ hk, Kd.fresh' (Kd.R_lt (by (with_reducible repeat (first | apply Kd.R_alloc | apply Kd.R_drewN | apply Kd.R_drew)); exact HO143.out)) k_ hk, Kd.fresh' (Kd.R_lt (by (with_reducible repeat (first | apply Kd.R_alloc | apply Kd.R_drewN | apply Kd.R_drew)); exact HO149.out)) k_ hk, Kd.fresh' (Kd.R_lt (by (with_reducible repeat (first | apply Kd.R_alloc | apply Kd.R_drewN | apply Kd.R_drew)); exact HO156.out)) k_ hk, Kd.fresh' (Kd.R_lt (by (with_reducible repeat (first | apply Kd.R_alloc | apply Kd.R_drewN | apply Kd.R_drew)); exact HO163.out)) k_ hk, Kd.fresh' (Kd.R_lt (by (with_reducible repeat (first | apply Kd.R_alloc | apply Kd.R_drewN | apply Kd.R_drew)); exact HO167.out)) k_ hk, Kd.fresh' (Kd.R_lt (by (with_reducible repeat (first | apply Kd.R_alloc | apply Kd.R_drewN | apply Kd.R_drew)); exact HO176.out)) k_ hk⟩)); (case aO => exact (by (with_reducible repeat (first | apply Kd.R_alloc | apply Kd.R_drewN | apply Kd.R_drew)); exact Kd.R_mono HO173.out (fun _ hk => ⟨hk.1.1, ⟨hk.1.2.1, ⟨hk.1.2.2.1, ⟨hk.1.2.2.2.1, ⟨hk.1.2.2.2.2.1, ⟨hk.1.2.2.2.2.2, hk.2⟩⟩⟩⟩⟩⟩))); (case aS => exact (below_size (by repeat (first | (with_reducible first | exact HB.out | apply below_alloc | apply pw_below_drewN | apply below_drew1) | exact HB.out)))); (case aL => have := LMc37.out; omega); intro v178 w47 ho hb hg hat; rw [← Ny177.out] at ho; have n0_ := Aside0.mk (Kd.R_after (ok := (fun k_ => some k_ ≠ (.slice Ao30 y141.length co30 : Value).ownBlock ∧ some k_ ≠ (.slice Ao33 y147.length co33 : Value).ownBlock ∧ some k_ ≠ (v155 : Value).ownBlock ∧ some k_ ≠ (v162 : Value).ownBlock ∧ some k_ ≠ (v166 : Value).ownBlock ∧ some k_ ≠ (.slice Ao48 y174.length co48 : Value).ownBlock)) (by (with_reducible repeat (first | apply Kd.R_alloc | apply Kd.R_drewN | apply Kd.R_drew)); exact Kd.R_mono HO140.out (fun _ hk => ⟨⟨hk.1.1.1, ⟨hk.1.1.2.1, ⟨hk.1.1.2.2.1, ⟨hk.1.1.2.2.2.1, ⟨hk.1.1.2.2.2.2, hk.2⟩⟩⟩⟩⟩, hk.1.2⟩)) hg hat); have n1_ := Aside0.mk (Kd.R_after (ok := (fun k_ => some k_ ≠ (.slice Ao24 y138.length co24 : Value).ownBlock ∧ some k_ ≠ (.slice Ao33 y147.length co33 : Value).ownBlock ∧ some k_ ≠ (v155 : Value).ownBlock ∧ some k_ ≠ (v162 : Value).ownBlock ∧ some k_ ≠ (v166 : Value).ownBlock ∧ some k_ ≠ (.slice Ao48 y174.length co48 : Value).ownBlock)) (by (with_reducible repeat (first | apply Kd.R_alloc | apply Kd.R_drewN | apply Kd.R_drew)); exact Kd.R_mono HO143.out (fun _ hk => ⟨⟨hk.1.1.1, ⟨hk.1.1.2.1, ⟨hk.1.1.2.2.1, ⟨hk.1.1.2.2.2.1, ⟨hk.1.1.2.2.2.2, hk.2⟩⟩⟩⟩⟩, hk.1.2⟩)) hg hat); have n2_ := Aside0.mk (Kd.R_after (ok := (fun k_ => some k_ ≠ (.slice Ao24 y138.length co24 : Value).ownBlock ∧ some k_ ≠ (.slice Ao30 y141.length co30 : Value).ownBlock ∧ some k_ ≠ (v155 : Value).ownBlock ∧ some k_ ≠ (v162 : Value).ownBlock ∧ some k_ ≠ (v166 : Value).ownBlock ∧ some k_ ≠ (.slice Ao48 y174.length co48 : Value).ownBlock)) (by (with_reducible repeat (first | apply Kd.R_alloc | apply Kd.R_drewN | apply Kd.R_drew)); exact Kd.R_mono HO149.out (fun _ hk => ⟨⟨hk.1.1.1, ⟨hk.1.1.2.1, ⟨hk.1.1.2.2.1, ⟨hk.1.1.2.2.2.1, ⟨hk.1.1.2.2.2.2, hk.2⟩⟩⟩⟩⟩, hk.1.2⟩)) hg hat); have n3_ := Aside0.mk (Kd.R_after (ok := (fun k_ => some k_ ≠ (.slice Ao24 y138.length co24 : Value).ownBlock ∧ some k_ ≠ (.slice Ao30 y141.length co30 : Value).ownBlock ∧ some k_ ≠ (.slice Ao33 y147.length co33 : Value).ownBlock ∧ some k_ ≠ (v162 : Value).ownBlock ∧ some k_ ≠ (v166 : Value).ownBlock ∧ some k_ ≠ (.slice Ao48 y174.length co48 : Value).ownBlock)) (by (with_reducible repeat (first | apply Kd.R_alloc | apply Kd.R_drewN | apply Kd.R_drew)); exact Kd.R_mono HO156.out (fun _ hk => ⟨⟨hk.1.1.1, ⟨hk.1.1.2.1, ⟨hk.1.1.2.2.1, ⟨hk.1.1.2.2.2.1, ⟨hk.1.1.2.2.2.2, hk.2⟩⟩⟩⟩⟩, hk.1.2⟩)) hg hat); have n4_ := Aside0.mk (Kd.R_after (ok := (fun k_ => some k_ ≠ (.slice Ao24 y138.length co24 : Value).ownBlock ∧ some k_ ≠ (.slice Ao30 y141.length co30 : Value).ownBlock ∧ some k_ ≠ (.slice Ao33 y147.length co33 : Value).ownBlock ∧ some k_ ≠ (v155 : Value).ownBlock ∧ some k_ ≠ (v166 : Value).ownBlock ∧ some k_ ≠ (.slice Ao48 y174.length co48 : Value).ownBlock)) (by (with_reducible repeat (first | apply Kd.R_alloc | apply Kd.R_drewN | apply Kd.R_drew)); exact Kd.R_mono HO163.out (fun _ hk => ⟨⟨hk.1.1.1, ⟨hk.1.1.2.1, ⟨hk.1.1.2.2.1, ⟨hk.1.1.2.2.2.1, ⟨hk.1.1.2.2.2.2, hk.2⟩⟩⟩⟩⟩, hk.1.2⟩)) hg hat); have n5_ := Aside0.mk (Kd.R_after (ok := (fun k_ => some k_ ≠ (.slice Ao24 y138.length co24 : Value).ownBlock ∧ some k_ ≠ (.slice Ao30 y141.length co30 : Value).ownBlock ∧ some k_ ≠ (.slice Ao33 y147.length co33 : Value).ownBlock ∧ some k_ ≠ (v155 : Value).ownBlock ∧ some k_ ≠ (v162 : Value).ownBlock ∧ some k_ ≠ (.slice Ao48 y174.length co48 : Value).ownBlock)) (by (with_reducible repeat (first | apply Kd.R_alloc | apply Kd.R_drewN | apply Kd.R_drew)); exact Kd.R_mono HO167.out (fun _ hk => ⟨⟨hk.1.1.1, ⟨hk.1.1.2.1, ⟨hk.1.1.2.2.1, ⟨hk.1.1.2.2.2.1, ⟨hk.1.1.2.2.2.2, hk.2⟩⟩⟩⟩⟩, hk.1.2⟩)) hg hat); have n6_ := Aside0.mk (Kd.R_after (ok := (fun k_ => some k_ ≠ (.slice Ao24 y138.length co24 : Value).ownBlock ∧ some k_ ≠ (.slice Ao30 y141.length co30 : Value).ownBlock ∧ some k_ ≠ (.slice Ao33 y147.length co33 : Value).ownBlock ∧ some k_ ≠ (v155 : Value).ownBlock ∧ some k_ ≠ (v162 : Value).ownBlock ∧ some k_ ≠ (v166 : Value).ownBlock)) (by (with_reducible repeat (first | apply Kd.R_alloc | apply Kd.R_drewN | apply Kd.R_drew)); exact Kd.R_mono HO176.out (fun _ hk => ⟨⟨hk.1.1.1.1.1.1.2, ⟨hk.1.1.1.1.1.2, ⟨hk.1.1.1.1.2, ⟨hk.1.1.1.2, ⟨hk.1.1.2, hk.1.2⟩⟩⟩⟩⟩, hk.2⟩)) hg hat); have n7_ := Aside0.mk (hb); have n8_ := Aside0.mk ((show Kd.C (Kd.int .u8) w47 Ao30 y150.length y150 from by rw [Ny150.out]; exact Kd.C_take (m := ((l0.length : Int) : Int).toNat) ((Kd.R_reads' (Kd.R_after (ok := (fun k_ => some k_ ≠ (.slice Ao24 y138.length co24 : Value).ownBlock ∧ some k_ ≠ (.slice Ao33 y147.length co33 : Value).ownBlock ∧ some k_ ≠ (v155 : Value).ownBlock ∧ some k_ ≠ (v162 : Value).ownBlock ∧ some k_ ≠ (v166 : Value).ownBlock ∧ some k_ ≠ (.slice Ao48 y174.length co48 : Value).ownBlock)) (by (with_reducible repeat (first | apply Kd.R_alloc | apply Kd.R_drewN | apply Kd.R_drew)); exact Kd.R_mono HO143.out (fun _ hk => ⟨⟨hk.1.1.1, ⟨hk.1.1.2.1, ⟨hk.1.1.2.2.1, ⟨hk.1.1.2.2.2.1, ⟨hk.1.1.2.2.2.2, hk.2⟩⟩⟩⟩⟩, hk.1.2⟩)) hg hat)).2.2) KL29.out)); have n9_ := Aside0.mk ((show Kd.C (Kd.int .u8) w47 Ao30 y150.length y150 from by rw [Ny157.out]; exact Kd.C_take (m := ((l0.length : Int) : Int).toNat) ((Kd.R_reads' (Kd.R_after (ok := (fun k_ => some k_ ≠ (.slice Ao24 y138.length co24 : Value).ownBlock ∧ some k_ ≠ (.slice Ao33 y147.length co33 : Value).ownBlock ∧ some k_ ≠ (v155 : Value).ownBlock ∧ some k_ ≠ (v162 : Value).ownBlock ∧ some k_ ≠ (v166 : Value).ownBlock ∧ some k_ ≠ (.slice Ao48 y174.length co48 : Value).ownBlock)) (by (with_reducible repeat (first | apply Kd.R_alloc | apply Kd.R_drewN | apply Kd.R_drew)); exact Kd.R_mono HO143.out (fun _ hk => ⟨⟨hk.1.1.1, ⟨hk.1.1.2.1, ⟨hk.1.1.2.2.1, ⟨hk.1.1.2.2.2.1, ⟨hk.1.1.2.2.2.2, hk.2⟩⟩⟩⟩⟩, hk.1.2⟩)) hg hat)).2.2) KL31.out)); have n10_ := Aside0.mk (ho); clear HO140; clear HO143; clear HO149; clear HO156; clear HO163; clear HO167; clear HO176; clear HB; clear HR153; clear HR160; clear HO173; have HO140 := n0_; have HO143 := n1_; have HO149 := n2_; have HO156 := n3_; have HO163 := n4_; have HO167 := n5_; have HO176 := n6_; have HB := n7_; have HR153 := n8_; have HR160 := n9_; have HO179 := n10_; clear n0_ n1_ n2_ n3_ n4_ n5_ n6_ n7_ n8_ n9_ n10_; clear ho hb hg hat; obtain ⟨Ao49, co49, eo49⟩ := Kd.R_slice HO179.out; subst eo49) | ((with_reducible refine gate_callee (f := 14) rfl ?_); refine goesL_ (some 58) rfl rfl Try.func14 (by kernel_rfl) rfl #[.slice Ao30 y141.length co30, .slice Ao49 y177.length co49] rfl (by (try simp only [List.map_toArray, List.map_cons, List.map_nil]); first | done | rfl | (simp only [List.length_drop, List.length_take]; rfl)) ?_; (with_reducible refine (furlongref01_Bytes.calls _ _ y141 _ _ y177 true _ ?side1 ?side2 ?side3 ?side4 A38.out).mono ?_); (case side1 => repeat (first | exact (Kd.R_reads' HO143.out).2.2 | (with_reducible refine Kd.C_alloc ?_ _) | (with_reducible refine Kd.C_drewN ?_ _) | (with_reducible refine Kd.C_drew ?_))); (case side2 => exact (Kd.R_reads' HO143.out).2.1); (case side3 => repeat (first | exact (Kd.R_reads' HO179.out).2.2 | (with_reducible refine Kd.C_alloc ?_ _) | (with_reducible refine Kd.C_drewN ?_ _) | (with_reducible refine Kd.C_drew ?_))); (case side4 => exact (Kd.R_reads' HO179.out).2.1); rintro e w' ⟨rfl, ⟨nd, rfl⟩⟩; refine ⟨_, rfl, ?_⟩) | (go_at_call 14; (with_reducible refine (furlongref01_Bytes.calls _ _ y147 _ _ l1 true _ ?side1 ?side2 ?side3 ?side4 A40.out).mono ?_); (case side1 => repeat (first | exact (Kd.R_reads' HO149.out).2.2 | (with_reducible refine Kd.C_alloc ?_ _) | (with_reducible refine Kd.C_drewN ?_ _) | (with_reducible refine Kd.C_drew ?_))); (case side2 => exact (Kd.R_reads' HO149.out).2.1); (case side3 => repeat (first | exact (Kd.C_below HR1.out (by repeat (first | (with_reducible first | exact HB.out | apply below_alloc | apply pw_below_drewN | apply below_drew1) | exact HB.out))) | (with_reducible refine Kd.C_alloc ?_ _) | (with_reducible refine Kd.C_drewN ?_ _) | (with_reducible refine Kd.C_drew ?_))); (case side4 => exact HC1.out); rintro e w' ⟨rfl, ⟨nd, rfl⟩⟩))
            go_meet
            case rel => exact ⟨_, (((t165 == 0) != (decide ((l1.length : Int) ≤ 60000)))), (by first | rfl | (simp; done) | (simp [*]; done)), H', ⟨by first | omega | exact Nat.le_refl _⟩, ⟨by (with_reducible repeat (first | apply Kd.R_alloc | apply Kd.R_drewN | apply Kd.R_drew)); exact Kd.R_mono HO143.out (fun _ hk => ⟨hk.1.2.1, ⟨hk.1.2.2.1, ⟨hk.1.2.2.2.1, hk.1.2.2.2.2.1⟩⟩⟩)⟩, ⟨by (with_reducible repeat (first | apply Kd.R_alloc | apply Kd.R_drewN | apply Kd.R_drew)); exact Kd.R_mono HO149.out (fun _ hk => ⟨hk.1.2.1, ⟨hk.1.2.2.1, ⟨hk.1.2.2.2.1, hk.1.2.2.2.2.1⟩⟩⟩)⟩, ⟨by (with_reducible repeat (first | apply Kd.R_alloc | apply Kd.R_drewN | apply Kd.R_drew)); exact Kd.R_mono HO156.out (fun _ hk => ⟨hk.1.2.1, ⟨hk.1.2.2.1, ⟨hk.1.2.2.2.1, hk.1.2.2.2.2.1⟩⟩⟩)⟩, ⟨by (with_reducible repeat (first | apply Kd.R_alloc | apply Kd.R_drewN | apply Kd.R_drew)); exact Kd.R_mono HO163.out (fun _ hk => ⟨hk.1.2.1, ⟨hk.1.2.2.1, ⟨hk.1.2.2.2.1, hk.1.2.2.2.2.1⟩⟩⟩)⟩, ⟨by (with_reducible repeat (first | apply Kd.R_alloc | apply Kd.R_drewN | apply Kd.R_drew)); exact Kd.R_mono HO167.out (fun _ hk => ⟨hk.1.2.1, ⟨hk.1.2.2.1, ⟨hk.1.2.2.2.1, hk.1.2.2.2.2.1⟩⟩⟩)⟩, ⟨by repeat (first | (with_reducible exact HR153.out) | (with_reducible refine Kd.C_alloc ?_ _) | (with_reducible refine Kd.C_drewN ?_ _) | (with_reducible refine Kd.C_drew ?_) | exact HR153.out)⟩, ⟨by repeat (first | (with_reducible exact HR160.out) | (with_reducible refine Kd.C_alloc ?_ _) | (with_reducible refine Kd.C_drewN ?_ _) | (with_reducible refine Kd.C_drew ?_) | exact HR160.out)⟩, ⟨by repeat (first | (with_reducible first | exact HB.out | apply below_alloc | apply pw_below_drewN | apply below_drew1) | exact HB.out)⟩⟩
           ·replace c41 := Bool.eq_false_iff.mpr c41
            subst c41
            have H1 : (furlonglaw03_StripKeeps.j0 k l0 l1 y141 y147 t154 t161 t164 true) = some r := by rw [if_neg (show ¬ (false = true) by decide)] at H; exact H
            clear H
            have H := H1
            clear H1
            have H' := Aside0.mk H
            clear H
            go_wp2_with (first | ((with_reducible refine gate_dst (N := 53) rfl ?_); (try (refine gate_guard (by rfl) ?_; dsimp only)); refine Kd.R_lit (Kd.int .u8) _ 5 ?hg (N := 53) ?hd (xs := ([] : List Int)) (inner := []) (ok := fun _ => True) (okp := fun _ => True) ?hr ?hp (fun _ hk => hk) trivial (Below.refl _ _) (Nat.le_refl _) (by simp) ?_; (case hd => rfl); (case hg => rfl); (case hr => first | (go_simp; done) | (go_simp; rfl)); (case hp => exact (Reps.none _ _)); intro v169 w50 ho51 hb hg_ hnew_; clear hg_ hnew_; (first | rw [← Ny168.out] at ho51 | (simp only [Int.reduceToNat] at ho51; rw [← Ny168.out] at ho51)); have n0_ := Aside0.mk (Kd.R_elder' (by (with_reducible repeat (first | apply Kd.R_alloc | apply Kd.R_drewN | apply Kd.R_drew)); exact HO140.out) (Kd.R_base ho51) hb); have n1_ := Aside0.mk (Kd.R_elder' (by (with_reducible repeat (first | apply Kd.R_alloc | apply Kd.R_drewN | apply Kd.R_drew)); exact HO143.out) (Kd.R_base ho51) hb); have n2_ := Aside0.mk (Kd.R_elder' (by (with_reducible repeat (first | apply Kd.R_alloc | apply Kd.R_drewN | apply Kd.R_drew)); exact HO149.out) (Kd.R_base ho51) hb); have n3_ := Aside0.mk (Kd.R_elder' (by (with_reducible repeat (first | apply Kd.R_alloc | apply Kd.R_drewN | apply Kd.R_drew)); exact HO156.out) (Kd.R_base ho51) hb); have n4_ := Aside0.mk (Kd.R_elder' (by (with_reducible repeat (first | apply Kd.R_alloc | apply Kd.R_drewN | apply Kd.R_drew)); exact HO163.out) (Kd.R_base ho51) hb); have n5_ := Aside0.mk (Kd.R_elder' (by (with_reducible repeat (first | apply Kd.R_alloc | apply Kd.R_drewN | apply Kd.R_drew)); exact HO167.out) (Kd.R_base ho51) hb); have n6_ := Aside0.mk (Kd.R_lower (Kd.R_new' (Kd.R_new' (Kd.R_new' (Kd.R_new' (Kd.R_new' (Kd.R_new' ho51 (Kd.R_lt (by (with_reducible repeat (first | apply Kd.R_alloc | apply Kd.R_drewN | apply Kd.R_drew)); exact HO140.out))) (Kd.R_lt (by (with_reducible repeat (first | apply Kd.R_alloc | apply Kd.R_drewN | apply Kd.R_drew)); exact HO143.out))) (Kd.R_lt (by (with_reducible repeat (first | apply Kd.R_alloc | apply Kd.R_drewN | apply Kd.R_drew)); exact HO149.out))) (Kd.R_lt (by (with_reducible repeat (first | apply Kd.R_alloc | apply Kd.R_drewN | apply Kd.R_drew)); exact HO156.out))) (Kd.R_lt (by (with_reducible repeat (first | apply Kd.R_alloc | apply Kd.R_drewN | apply Kd.R_drew)); exact HO163.out))) (Kd.R_lt (by (with_reducible repeat (first | apply Kd.R_alloc | apply Kd.R_drewN | apply Kd.R_drew)); exact HO167.out))) (below_size (by repeat (first | (with_reducible first | exact HB.out | apply below_alloc | apply pw_below_drewN | apply below_drew1) | exact HB.out)))); have n7_ := Aside0.mk (Kd.C_below (by repeat (first | (with_reducible exact HR153.out) | (with_reducible refine Kd.C_alloc ?_ _) | (with_reducible refine Kd.C_drewN ?_ _) | (with_reducible refine Kd.C_drew ?_) | exact HR153.out)) hb); have n8_ := Aside0.mk (Kd.C_below (by repeat (first | (with_reducible exact HR160.out) | (with_reducible refine Kd.C_alloc ?_ _) | (with_reducible refine Kd.C_drewN ?_ _) | (with_reducible refine Kd.C_drew ?_) | exact HR160.out)) hb); have n9_ := Aside0.mk (below_step (by repeat (first | (with_reducible first | exact HB.out | apply below_alloc | apply pw_below_drewN | apply below_drew1) | exact HB.out)) hb); clear HO140; clear HO143; clear HO149; clear HO156; clear HO163; clear HO167; clear HR153; clear HR160; clear HB; have HO140 := n0_; have HO143 := n1_; have HO149 := n2_; have HO156 := n3_; have HO163 := n4_; have HO167 := n5_; have HO170 := n6_; have HR153 := n7_; have HR160 := n8_; have HB := n9_; clear n0_ n1_ n2_ n3_ n4_ n5_ n6_ n7_ n8_ n9_; clear hb ho51) | ((with_reducible refine gate_builtin (b := .append) (xs := #[.tmp 53, .tmp 54]) rfl ?_); (try (refine gate_guard (by rfl) ?_; dsimp only)); at_builtin; refine Kd.R_append_rows (Kd.int .u8) (w0 := w) w.heap.size rfl (.tmp 53) (.tmp 54) 22 5 (.int .u8 0) 1 rfl Try.underlying22 info5 rfl (by decide) (by omega) v169 y168 l0 _ _ _ (fun k_ => some k_ ≠ (.slice Ao24 y138.length co24 : Value).ownBlock ∧ some k_ ≠ (.slice Ao30 y141.length co30 : Value).ownBlock ∧ some k_ ≠ (.slice Ao33 y147.length co33 : Value).ownBlock ∧ some k_ ≠ (v155 : Value).ownBlock ∧ some k_ ≠ (v162 : Value).ownBlock ∧ some k_ ≠ (v166 : Value).ownBlock) (fun _ => False) rfl rfl ?aO ?aR (fun _ _ h => h) (fun _ h => h.elim) ?aF ?aB ?aS ?aL ?_; (case aR => repeat (first | exact (Kd.C_below HR0.out HB.out) | (with_reducible refine Kd.C_alloc ?_ _) | (with_reducible refine Kd.C_drewN ?_ _) | (with_reducible refine Kd.C_drew ?_))); (case aB => exact (by repeat (first | (with_reducible first | exact HB.out | apply below_alloc | apply pw_below_drewN | apply below_drew1) | exact HB.out))); (case aF => exact (fun k_ hk => ⟨Kd.fresh' (Kd.R_lt (by (with_reducible repeat (first | apply Kd.R_alloc | apply Kd.R_drewN | apply Kd.R_drew)); exact HO140.out)) k_ hk, Kd.fresh' (Kd.R_lt (by (with_reducible repeat (first | apply Kd.R_alloc | apply Kd.R_drewN | apply Kd.R_drew)); exact HO143.out)) k_ hk, Kd.fresh' (Kd.R_lt (by (with_reducible repeat (first | apply Kd.R_alloc | apply Kd.R_drewN | apply Kd.R_drew)); exact HO149.out)) k_ hk, Kd.fresh' (Kd.R_lt (by (with_reducible repeat (first | apply Kd.R_alloc | apply Kd.R_drewN | apply Kd.R_drew)); exact HO156.out)) k_ hk, Kd.fresh' (Kd.R_lt (by (with_reducible repeat (first | apply Kd.R_alloc | apply Kd.R_drewN | apply Kd.R_drew)); exact HO163.out)) k_ hk, Kd.fresh' (Kd.R_lt (by (with_reducible repeat (first | apply Kd.R_alloc | apply Kd.R_drewN | apply Kd.R_drew)); exact HO167.out)) k_ hk⟩)); (case aO => exact (by (with_reducible repeat (first | apply Kd.R_alloc | apply Kd.R_drewN | apply Kd.R_drew)); exact Kd.R_mono HO170.out (fun _ hk => ⟨hk.1.1.1.1.1.2, ⟨hk.1.1.1.1.2, ⟨hk.1.1.1.2, ⟨hk.1.1.2, ⟨hk.1.2, hk.2⟩⟩⟩⟩⟩))); (case aS => exact (below_size (by repeat (first | (with_reducible first | exact HB.out | apply below_alloc | apply pw_below_drewN | apply below_drew1) | exact HB.out)))); (case aL => have := LMc36.out; omega); intro v172 w52 ho hb hg hat; rw [← Ny171.out] at ho; have n0_ := Aside0.mk (Kd.R_after (ok := (fun k_ => some k_ ≠ (.slice Ao30 y141.length co30 : Value).ownBlock ∧ some k_ ≠ (.slice Ao33 y147.length co33 : Value).ownBlock ∧ some k_ ≠ (v155 : Value).ownBlock ∧ some k_ ≠ (v162 : Value).ownBlock ∧ some k_ ≠ (v166 : Value).ownBlock)) (by (with_reducible repeat (first | apply Kd.R_alloc | apply Kd.R_drewN | apply Kd.R_drew)); exact Kd.R_mono HO140.out (fun _ hk => ⟨⟨hk.1.1.1.1.1, ⟨hk.1.1.1.1.2, ⟨hk.1.1.1.2, ⟨hk.1.1.2, hk.1.2⟩⟩⟩⟩, hk.2⟩)) hg hat); have n1_ := Aside0.mk (Kd.R_after (ok := (fun k_ => some k_ ≠ (.slice Ao24 y138.length co24 : Value).ownBlock ∧ some k_ ≠ (.slice Ao33 y147.length co33 : Value).ownBlock ∧ some k_ ≠ (v155 : Value).ownBlock ∧ some k_ ≠ (v162 : Value).ownBlock ∧ some k_ ≠ (v166 : Value).ownBlock)) (by (with_reducible repeat (first | apply Kd.R_alloc | apply Kd.R_drewN | apply Kd.R_drew)); exact Kd.R_mono HO143.out (fun _ hk => ⟨⟨hk.1.1.1.1.1, ⟨hk.1.1.1.1.2, ⟨hk.1.1.1.2, ⟨hk.1.1.2, hk.1.2⟩⟩⟩⟩, hk.2⟩)) hg hat); have n2_ := Aside0.mk (Kd.R_after (ok := (fun k_ => some k_ ≠ (.slice Ao24 y138.length co24 : Value).ownBlock ∧ some k_ ≠ (.slice Ao30 y141.length co30 : Value).ownBlock ∧ some k_ ≠ (v155 : Value).ownBlock ∧ some k_ ≠ (v162 : Value).ownBlock ∧ some k_ ≠ (v166 : Value).ownBlock)) (by (with_reducible repeat (first | apply Kd.R_alloc | apply Kd.R_drewN | apply Kd.R_drew)); exact Kd.R_mono HO149.out (fun _ hk => ⟨⟨hk.1.1.1.1.1, ⟨hk.1.1.1.1.2, ⟨hk.1.1.1.2, ⟨hk.1.1.2, hk.1.2⟩⟩⟩⟩, hk.2⟩)) hg hat); have n3_ := Aside0.mk (Kd.R_after (ok := (fun k_ => some k_ ≠ (.slice Ao24 y138.length co24 : Value).ownBlock ∧ some k_ ≠ (.slice Ao30 y141.length co30 : Value).ownBlock ∧ some k_ ≠ (.slice Ao33 y147.length co33 : Value).ownBlock ∧ some k_ ≠ (v162 : Value).ownBlock ∧ some k_ ≠ (v166 : Value).ownBlock)) (by (with_reducible repeat (first | apply Kd.R_alloc | apply Kd.R_drewN | apply Kd.R_drew)); exact Kd.R_mono HO156.out (fun _ hk => ⟨⟨hk.1.1.1.1.1.2, ⟨hk.1.1.1.1.2, ⟨hk.1.1.1.2, ⟨hk.1.1.2, hk.1.2⟩⟩⟩⟩, hk.2⟩)) hg hat); have n4_ := Aside0.mk (Kd.R_after (ok := (fun k_ => some k_ ≠ (.slice Ao24 y138.length co24 : Value).ownBlock ∧ some k_ ≠ (.slice Ao30 y141.length co30 : Value).ownBlock ∧ some k_ ≠ (.slice Ao33 y147.length co33 : Value).ownBlock ∧ some k_ ≠ (v155 : Value).ownBlock ∧ some k_ ≠ (v166 : Value).ownBlock)) (by (with_reducible repeat (first | apply Kd.R_alloc | apply Kd.R_drewN | apply Kd.R_drew)); exact Kd.R_mono HO163.out (fun _ hk => ⟨⟨hk.1.1.1.1.1.2, ⟨hk.1.1.1.1.2, ⟨hk.1.1.1.2, ⟨hk.1.1.2, hk.1.2⟩⟩⟩⟩, hk.2⟩)) hg hat); have n5_ := Aside0.mk (Kd.R_after (ok := (fun k_ => some k_ ≠ (.slice Ao24 y138.length co24 : Value).ownBlock ∧ some k_ ≠ (.slice Ao30 y141.length co30 : Value).ownBlock ∧ some k_ ≠ (.slice Ao33 y147.length co33 : Value).ownBlock ∧ some k_ ≠ (v155 : Value).ownBlock ∧ some k_ ≠ (v162 : Value).ownBlock)) (by (with_reducible repeat (first | apply Kd.R_alloc | apply Kd.R_drewN | apply Kd.R_drew)); exact Kd.R_mono HO167.out (fun _ hk => ⟨⟨hk.1.1.1.1.1.2, ⟨hk.1.1.1.1.2, ⟨hk.1.1.1.2, ⟨hk.1.1.2, hk.1.2⟩⟩⟩⟩, hk.2⟩)) hg hat); have n6_ := Aside0.mk (hb); have n7_ := Aside0.mk ((show Kd.C (Kd.int .u8) w52 Ao30 y150.length y150 from by rw [Ny150.out]; exact Kd.C_take (m := ((l0.length : Int) : Int).toNat) ((Kd.R_reads' (Kd.R_after (ok := (fun k_ => some k_ ≠ (.slice Ao24 y138.length co24 : Value).ownBlock ∧ some k_ ≠ (.slice Ao33 y147.length co33 : Value).ownBlock ∧ some k_ ≠ (v155 : Value).ownBlock ∧ some k_ ≠ (v162 : Value).ownBlock ∧ some k_ ≠ (v166 : Value).ownBlock)) (by (with_reducible repeat (first | apply Kd.R_alloc | apply Kd.R_drewN | apply Kd.R_drew)); exact Kd.R_mono HO143.out (fun _ hk => ⟨⟨hk.1.1.1.1.1, ⟨hk.1.1.1.1.2, ⟨hk.1.1.1.2, ⟨hk.1.1.2, hk.1.2⟩⟩⟩⟩, hk.2⟩)) hg hat)).2.2) KL29.out)); have n8_ := Aside0.mk ((show Kd.C (Kd.int .u8) w52 Ao30 y150.length y150 from by rw [Ny157.out]; exact Kd.C_take (m := ((l0.length : Int) : Int).toNat) ((Kd.R_reads' (Kd.R_after (ok := (fun k_ => some k_ ≠ (.slice Ao24 y138.length co24 : Value).ownBlock ∧ some k_ ≠ (.slice Ao33 y147.length co33 : Value).ownBlock ∧ some k_ ≠ (v155 : Value).ownBlock ∧ some k_ ≠ (v162 : Value).ownBlock ∧ some k_ ≠ (v166 : Value).ownBlock)) (by (with_reducible repeat (first | apply Kd.R_alloc | apply Kd.R_drewN | apply Kd.R_drew)); exact Kd.R_mono HO143.out (fun _ hk => ⟨⟨hk.1.1.1.1.1, ⟨hk.1.1.1.1.2, ⟨hk.1.1.1.2, ⟨hk.1.1.2, hk.1.2⟩⟩⟩⟩, hk.2⟩)) hg hat)).2.2) KL31.out)); have n9_ := Aside0.mk (ho); clear HO140; clear HO143; clear HO149; clear HO156; clear HO163; clear HO167; clear HB; clear HR153; clear HR160; clear HO170; have HO140 := n0_; have HO143 := n1_; have HO149 := n2_; have HO156 := n3_; have HO163 := n4_; have HO167 := n5_; have HB := n6_; have HR153 := n7_; have HR160 := n8_; have HO173 := n9_; clear n0_ n1_ n2_ n3_ n4_ n5_ n6_ n7_ n8_ n9_; clear ho hb hg hat) | ((with_reducible refine gate_dst (N := 56) rfl ?_); (try (refine gate_guard (by rfl) ?_; dsimp only)); refine Kd.R_lit (Kd.int .u8) _ 5 ?hg (N := 56) ?hd (xs := ([71, 72] : List Int)) (inner := [.int .u8 71, .int .u8 72]) (ok := fun _ => True) (okp := fun _ => True) ?hr ?hp (fun _ hk => hk) trivial (Below.refl _ _) (Nat.le_refl _) (by simp) ?_; (case hd => rfl); (case hg => rfl); (case hr => first | (go_simp; done) | (go_simp; rfl)); (case hp => exact (Reps.one (show Kd.M (Kd.int .u8) _ _ _ 71 [.int .u8 71] from rfl) (Reps.one (show Kd.M (Kd.int .u8) _ _ _ 72 [.int .u8 72] from rfl) (Reps.none _ _)))); intro v175 w53 ho54 hb hg_ hnew_; clear hg_ hnew_; (first | rw [← Ny174.out] at ho54 | (simp only [Int.reduceToNat] at ho54; rw [← Ny174.out] at ho54)); have n0_ := Aside0.mk (Kd.R_elder' (by (with_reducible repeat (first | apply Kd.R_alloc | apply Kd.R_drewN | apply Kd.R_drew)); exact HO140.out) (Kd.R_base ho54) hb); have n1_ := Aside0.mk (Kd.R_elder' (by (with_reducible repeat (first | apply Kd.R_alloc | apply Kd.R_drewN | apply Kd.R_drew)); exact HO143.out) (Kd.R_base ho54) hb); have n2_ := Aside0.mk (Kd.R_elder' (by (with_reducible repeat (first | apply Kd.R_alloc | apply Kd.R_drewN | apply Kd.R_drew)); exact HO149.out) (Kd.R_base ho54) hb); have n3_ := Aside0.mk (Kd.R_elder' (by (with_reducible repeat (first | apply Kd.R_alloc | apply Kd.R_drewN | apply Kd.R_drew)); exact HO156.out) (Kd.R_base ho54) hb); have n4_ := Aside0.mk (Kd.R_elder' (by (with_reducible repeat (first | apply Kd.R_alloc | apply Kd.R_drewN | apply Kd.R_drew)); exact HO163.out) (Kd.R_base ho54) hb); have n5_ := Aside0.mk (Kd.R_elder' (by (with_reducible repeat (first | apply Kd.R_alloc | apply Kd.R_drewN | apply Kd.R_drew)); exact HO167.out) (Kd.R_base ho54) hb); have n6_ := Aside0.mk (Kd.R_elder' (by (with_reducible repeat (first | apply Kd.R_alloc | apply Kd.R_drewN | apply Kd.R_drew)); exact HO173.out) (Kd.R_base ho54) hb); have n7_ := Aside0.mk (Kd.R_lower (Kd.R_new' (Kd.R_new' (Kd.R_new' (Kd.R_new' (Kd.R_new' (Kd.R_new' (Kd.R_new' ho54 (Kd.R_lt (by (with_reducible repeat (first | apply Kd.R_alloc | apply Kd.R_drewN | apply Kd.R_drew)); exact HO140.out))) (Kd.R_lt (by (with_reducible repeat (first | apply Kd.R_alloc | apply Kd.R_drewN | apply Kd.R_drew)); exact HO143.out))) (Kd.R_lt (by (with_reducible repeat (first | apply Kd.R_alloc | apply Kd.R_drewN | apply Kd.R_drew)); exact HO149.out))) (Kd.R_lt (by (with_reducible repeat (first | apply Kd.R_alloc | apply Kd.R_drewN | apply Kd.R_drew)); exact HO156.out))) (Kd.R_lt (by (with_reducible repeat (first | apply Kd.R_alloc | apply Kd.R_drewN | apply Kd.R_drew)); exact HO163.out))) (Kd.R_lt (by (with_reducible repeat (first | apply Kd.R_alloc | apply Kd.R_drewN | apply Kd.R_drew)); exact HO167.out))) (Kd.R_lt (by (with_reducible repeat (first | apply Kd.R_alloc | apply Kd.R_drewN | apply Kd.R_drew)); exact HO173.out))) (below_size (by repeat (first | (with_reducible first | exact HB.out | apply below_alloc | apply pw_below_drewN | apply below_drew1) | exact HB.out)))); have n8_ := Aside0.mk (Kd.C_below (by repeat (first | (with_reducible exact HR153.out) | (with_reducible refine Kd.C_alloc ?_ _) | (with_reducible refine Kd.C_drewN ?_ _) | (with_reducible refine Kd.C_drew ?_) | exact HR153.out)) hb); have n9_ := Aside0.mk (Kd.C_below (by repeat (first | (with_reducible exact HR160.out) | (with_reducible refine Kd.C_alloc ?_ _) | (with_reducible refine Kd.C_drewN ?_ _) | (with_reducible refine Kd.C_drew ?_) | exact HR160.out)) hb); have n10_ := Aside0.mk (below_step (by repeat (first | (with_reducible first | exact HB.out | apply below_alloc | apply pw_below_drewN | apply below_drew1) | exact HB.out)) hb); clear HO140; clear HO143; clear HO149; clear HO156; clear HO163; clear HO167; clear HO173; clear HR153; clear HR160; clear HB; have HO140 := n0_; have HO143 := n1_; have HO149 := n2_; have HO156 := n3_; have HO163 := n4_; have HO167 := n5_; have HO173 := n6_; have HO176 := n7_; have HR153 := n8_; have HR160 := n9_; have HB := n10_; clear n0_ n1_ n2_ n3_ n4_ n5_ n6_ n7_ n8_ n9_ n10_; clear hb ho54; obtain ⟨Ao56, co56, eo56⟩ := Kd.R_slice HO176.out; subst eo56) | ((with_reducible refine gate_builtin (b := .append) (xs := #[.tmp 55, .tmp 56]) rfl ?_); (try (refine gate_guard (by rfl) ?_; dsimp only)); at_builtin; refine Kd.R_append_rows (Kd.int .u8) (w0 := w) w.heap.size rfl (.tmp 55) (.tmp 56) 22 5 (.int .u8 0) 1 rfl Try.underlying22 info5 rfl (by decide) (by omega) v172 y171 y174 _ _ _ (fun k_ => some k_ ≠ (.slice Ao24 y138.length co24 : Value).ownBlock ∧ some k_ ≠ (.slice Ao30 y141.length co30 : Value).ownBlock ∧ some k_ ≠ (.slice Ao33 y147.length co33 : Value).ownBlock ∧ some k_ ≠ (v155 : Value).ownBlock ∧ some k_ ≠ (v162 : Value).ownBlock ∧ some k_ ≠ (v166 : Value).ownBlock ∧ some k_ ≠ (.slice Ao56 y174.length co56 : Value).ownBlock) (fun _ => False) rfl rfl ?aO ?aR (fun _ _ h => h) (fun _ h => h.elim) ?aF ?aB ?aS ?aL ?_; (case aR => repeat (first | exact (Kd.R_reads' HO176.out).2.2 | (with_reducible refine Kd.C_alloc ?_ _) | (with_reducible refine Kd.C_drewN ?_ _) | (with_reducible refine Kd.C_drew ?_))); (case aB => exact (by repeat (first | (with_reducible first | exact HB.out | apply below_alloc | apply pw_below_drewN | apply below_drew1) | exact HB.out))); (case aF => exact (fun k_ hk => ⟨Kd.fresh' (Kd.R_lt (by (with_reducible repeat (first | apply Kd.R_alloc | apply Kd.R_drewN | apply Kd.R_drew)); exact HO140.out)) k_ hk, Kd.fresh' (Kd.R_lt (by (with_reducible repeat (first | apply Kd.R_alloc | apply Kd.R_drewN | apply Kd.R_drew)); exact HO143.out)) k_ hk, Kd.fresh' (Kd.R_lt (by (with_reducible repeat (first | apply Kd.R_alloc | apply Kd.R_drewN | apply Kd.R_drew)); exact HO149.out)) k_ hk, Kd.fresh' (Kd.R_lt (by (with_reducible repeat (first | apply Kd.R_alloc | apply Kd.R_drewN | apply Kd.R_drew)); exact HO156.out)) k_ hk, Kd.fresh' (Kd.R_lt (by (with_reducible repeat (first | apply Kd.R_alloc | apply Kd.R_drewN | apply Kd.R_drew)); exact HO163.out)) k_ hk, Kd.fresh' (Kd.R_lt (by (with_reducible repeat (first | apply Kd.R_alloc | apply Kd.R_drewN | apply Kd.R_drew)); exact HO167.out)) k_ hk, Kd.fresh' (Kd.R_lt (by (with_reducible repeat (first | apply Kd.R_alloc | apply Kd.R_drewN | apply Kd.R_drew)); exact HO176.out)) k_ hk⟩)); (case aO => exact (by (with_reducible repeat (first | apply Kd.R_alloc | apply Kd.R_drewN | apply Kd.R_drew)); exact Kd.R_mono HO173.out (fun _ hk => ⟨hk.1.1, ⟨hk.1.2.1, ⟨hk.1.2.2.1, ⟨hk.1.2.2.2.1, ⟨hk.1.2.2.2.2.1, ⟨hk.1.2.2.2.2.2, hk.2⟩⟩⟩⟩⟩⟩))); (case aS => exact (below_size (by repeat (first | (with_reducible first | exact HB.out | apply below_alloc | apply pw_below_drewN | apply below_drew1) | exact HB.out)))); (case aL => have := LMc37.out; omega); intro v178 w55 ho hb hg hat; rw [← Ny177.out] at ho; have n0_ := Aside0.mk (Kd.R_after (ok := (fun k_ => some k_ ≠ (.slice Ao30 y141.length co30 : Value).ownBlock ∧ some k_ ≠ (.slice Ao33 y147.length co33 : Value).ownBlock ∧ some k_ ≠ (v155 : Value).ownBlock ∧ some k_ ≠ (v162 : Value).ownBlock ∧ some k_ ≠ (v166 : Value).ownBlock ∧ some k_ ≠ (.slice Ao56 y174.length co56 : Value).ownBlock)) (by (with_reducible repeat (first | apply Kd.R_alloc | apply Kd.R_drewN | apply Kd.R_drew)); exact Kd.R_mono HO140.out (fun _ hk => ⟨⟨hk.1.1.1, ⟨hk.1.1.2.1, ⟨hk.1.1.2.2.1, ⟨hk.1.1.2.2.2.1, ⟨hk.1.1.2.2.2.2, hk.2⟩⟩⟩⟩⟩, hk.1.2⟩)) hg hat); have n1_ := Aside0.mk (Kd.R_after (ok := (fun k_ => some k_ ≠ (.slice Ao24 y138.length co24 : Value).ownBlock ∧ some k_ ≠ (.slice Ao33 y147.length co33 : Value).ownBlock ∧ some k_ ≠ (v155 : Value).ownBlock ∧ some k_ ≠ (v162 : Value).ownBlock ∧ some k_ ≠ (v166 : Value).ownBlock ∧ some k_ ≠ (.slice Ao56 y174.length co56 : Value).ownBlock)) (by (with_reducible repeat (first | apply Kd.R_alloc | apply Kd.R_drewN | apply Kd.R_drew)); exact Kd.R_mono HO143.out (fun _ hk => ⟨⟨hk.1.1.1, ⟨hk.1.1.2.1, ⟨hk.1.1.2.2.1, ⟨hk.1.1.2.2.2.1, ⟨hk.1.1.2.2.2.2, hk.2⟩⟩⟩⟩⟩, hk.1.2⟩)) hg hat); have n2_ := Aside0.mk (Kd.R_after (ok := (fun k_ => some k_ ≠ (.slice Ao24 y138.length co24 : Value).ownBlock ∧ some k_ ≠ (.slice Ao30 y141.length co30 : Value).ownBlock ∧ some k_ ≠ (v155 : Value).ownBlock ∧ some k_ ≠ (v162 : Value).ownBlock ∧ some k_ ≠ (v166 : Value).ownBlock ∧ some k_ ≠ (.slice Ao56 y174.length co56 : Value).ownBlock)) (by (with_reducible repeat (first | apply Kd.R_alloc | apply Kd.R_drewN | apply Kd.R_drew)); exact Kd.R_mono HO149.out (fun _ hk => ⟨⟨hk.1.1.1, ⟨hk.1.1.2.1, ⟨hk.1.1.2.2.1, ⟨hk.1.1.2.2.2.1, ⟨hk.1.1.2.2.2.2, hk.2⟩⟩⟩⟩⟩, hk.1.2⟩)) hg hat); have n3_ := Aside0.mk (Kd.R_after (ok := (fun k_ => some k_ ≠ (.slice Ao24 y138.length co24 : Value).ownBlock ∧ some k_ ≠ (.slice Ao30 y141.length co30 : Value).ownBlock ∧ some k_ ≠ (.slice Ao33 y147.length co33 : Value).ownBlock ∧ some k_ ≠ (v162 : Value).ownBlock ∧ some k_ ≠ (v166 : Value).ownBlock ∧ some k_ ≠ (.slice Ao56 y174.length co56 : Value).ownBlock)) (by (with_reducible repeat (first | apply Kd.R_alloc | apply Kd.R_drewN | apply Kd.R_drew)); exact Kd.R_mono HO156.out (fun _ hk => ⟨⟨hk.1.1.1, ⟨hk.1.1.2.1, ⟨hk.1.1.2.2.1, ⟨hk.1.1.2.2.2.1, ⟨hk.1.1.2.2.2.2, hk.2⟩⟩⟩⟩⟩, hk.1.2⟩)) hg hat); have n4_ := Aside0.mk (Kd.R_after (ok := (fun k_ => some k_ ≠ (.slice Ao24 y138.length co24 : Value).ownBlock ∧ some k_ ≠ (.slice Ao30 y141.length co30 : Value).ownBlock ∧ some k_ ≠ (.slice Ao33 y147.length co33 : Value).ownBlock ∧ some k_ ≠ (v155 : Value).ownBlock ∧ some k_ ≠ (v166 : Value).ownBlock ∧ some k_ ≠ (.slice Ao56 y174.length co56 : Value).ownBlock)) (by (with_reducible repeat (first | apply Kd.R_alloc | apply Kd.R_drewN | apply Kd.R_drew)); exact Kd.R_mono HO163.out (fun _ hk => ⟨⟨hk.1.1.1, ⟨hk.1.1.2.1, ⟨hk.1.1.2.2.1, ⟨hk.1.1.2.2.2.1, ⟨hk.1.1.2.2.2.2, hk.2⟩⟩⟩⟩⟩, hk.1.2⟩)) hg hat); have n5_ := Aside0.mk (Kd.R_after (ok := (fun k_ => some k_ ≠ (.slice Ao24 y138.length co24 : Value).ownBlock ∧ some k_ ≠ (.slice Ao30 y141.length co30 : Value).ownBlock ∧ some k_ ≠ (.slice Ao33 y147.length co33 : Value).ownBlock ∧ some k_ ≠ (v155 : Value).ownBlock ∧ some k_ ≠ (v162 : Value).ownBlock ∧ some k_ ≠ (.slice Ao56 y174.length co56 : Value).ownBlock)) (by (with_reducible repeat (first | apply Kd.R_alloc | apply Kd.R_drewN | apply Kd.R_drew)); exact Kd.R_mono HO167.out (fun _ hk => ⟨⟨hk.1.1.1, ⟨hk.1.1.2.1, ⟨hk.1.1.2.2.1, ⟨hk.1.1.2.2.2.1, ⟨hk.1.1.2.2.2.2, hk.2⟩⟩⟩⟩⟩, hk.1.2⟩)) hg hat); have n6_ := Aside0.mk (Kd.R_after (ok := (fun k_ => some k_ ≠ (.slice Ao24 y138.length co24 : Value).ownBlock ∧ some k_ ≠ (.slice Ao30 y141.length co30 : Value).ownBlock ∧ some k_ ≠ (.slice Ao33 y147.length co33 : Value).ownBlock ∧ some k_ ≠ (v155 : Value).ownBlock ∧ some k_ ≠ (v162 : Value).ownBlock ∧ some k_ ≠ (v166 : Value).ownBlock)) (by (with_reducible repeat (first | apply Kd.R_alloc | apply Kd.R_drewN | apply Kd.R_drew)); exact Kd.R_mono HO176.out (fun _ hk => ⟨⟨hk.1.1.1.1.1.1.2, ⟨hk.1.1.1.1.1.2, ⟨hk.1.1.1.1.2, ⟨hk.1.1.1.2, ⟨hk.1.1.2, hk.1.2⟩⟩⟩⟩⟩, hk.2⟩)) hg hat); have n7_ := Aside0.mk (hb); have n8_ := Aside0.mk ((show Kd.C (Kd.int .u8) w55 Ao30 y150.length y150 from by rw [Ny150.out]; exact Kd.C_take (m := ((l0.length : Int) : Int).toNat) ((Kd.R_reads' (Kd.R_after (ok := (fun k_ => some k_ ≠ (.slice Ao24 y138.length co24 : Value).ownBlock ∧ some k_ ≠ (.slice Ao33 y147.length co33 : Value).ownBlock ∧ some k_ ≠ (v155 : Value).ownBlock ∧ some k_ ≠ (v162 : Value).ownBlock ∧ some k_ ≠ (v166 : Value).ownBlock ∧ some k_ ≠ (.slice Ao56 y174.length co56 : Value).ownBlock)) (by (with_reducible repeat (first | apply Kd.R_alloc | apply Kd.R_drewN | apply Kd.R_drew)); exact Kd.R_mono HO143.out (fun _ hk => ⟨⟨hk.1.1.1, ⟨hk.1.1.2.1, ⟨hk.1.1.2.2.1, ⟨hk.1.1.2.2.2.1, ⟨hk.1.1.2.2.2.2, hk.2⟩⟩⟩⟩⟩, hk.1.2⟩)) hg hat)).2.2) KL29.out)); have n9_ := Aside0.mk ((show Kd.C (Kd.int .u8) w55 Ao30 y150.length y150 from by rw [Ny157.out]; exact Kd.C_take (m := ((l0.length : Int) : Int).toNat) ((Kd.R_reads' (Kd.R_after (ok := (fun k_ => some k_ ≠ (.slice Ao24 y138.length co24 : Value).ownBlock ∧ some k_ ≠ (.slice Ao33 y147.length co33 : Value).ownBlock ∧ some k_ ≠ (v155 : Value).ownBlock ∧ some k_ ≠ (v162 : Value).ownBlock ∧ some k_ ≠ (v166 : Value).ownBlock ∧ some k_ ≠ (.slice Ao56 y174.length co56 : Value).ownBlock)) (by (with_reducible repeat (first | apply Kd.R_alloc | apply Kd.R_drewN | apply Kd.R_drew)); exact Kd.R_mono HO143.out (fun _ hk => ⟨⟨hk.1.1.1, ⟨hk.1.1.2.1, ⟨hk.1.1.2.2.1, ⟨hk.1.1.2.2.2.1, ⟨hk.1.1.2.2.2.2, hk.2⟩⟩⟩⟩⟩, hk.1.2⟩)) hg hat)).2.2) KL31.out)); have n10_ := Aside0.mk (ho); clear HO140; clear HO143; clear HO149; clear HO156; clear HO163; clear HO167; clear HO176; clear HB; clear HR153; clear HR160; clear HO173; have HO140 := n0_; have HO143 := n1_; have HO149 := n2_; have HO156 := n3_; have HO163 := n4_; have HO167 := n5_; have HO176 := n6_; have HB := n7_; have HR153 := n8_; have HR160 := n9_; have HO179 := n10_; clear n0_ n1_ n2_ n3_ n4_ n5_ n6_ n7_ n8_ n9_ n10_; clear ho hb hg hat; obtain ⟨Ao57, co57, eo57⟩ := Kd.R_slice HO179.out; subst eo57) | ((with_reducible refine gate_callee (f := 14) rfl ?_); refine goesL_ (some 58) rfl rfl Try.func14 (by kernel_rfl) rfl #[.slice Ao30 y141.length co30, .slice Ao57 y177.length co57] rfl (by (try simp only [List.map_toArray, List.map_cons, List.map_nil]); first | done | rfl | (simp only [List.length_drop, List.length_take]; rfl)) ?_; (with_reducible refine (furlongref01_Bytes.calls _ _ y141 _ _ y177 true _ ?side1 ?side2 ?side3 ?side4 A38.out).mono ?_); (case side1 => repeat (first | exact (Kd.R_reads' HO143.out).2.2 | (with_reducible refine Kd.C_alloc ?_ _) | (with_reducible refine Kd.C_drewN ?_ _) | (with_reducible refine Kd.C_drew ?_))); (case side2 => exact (Kd.R_reads' HO143.out).2.1); (case side3 => repeat (first | exact (Kd.R_reads' HO179.out).2.2 | (with_reducible refine Kd.C_alloc ?_ _) | (with_reducible refine Kd.C_drewN ?_ _) | (with_reducible refine Kd.C_drew ?_))); (case side4 => exact (Kd.R_reads' HO179.out).2.1); rintro e w' ⟨rfl, ⟨nd, rfl⟩⟩; refine ⟨_, rfl, ?_⟩) | (go_at_call 14; (with_reducible refine (furlongref01_Bytes.calls _ _ y147 _ _ l1 false _ ?side1 ?side2 ?side3 ?side4 A40.out).mono ?_); (case side1 => repeat (first | exact (Kd.R_reads' HO149.out).2.2 | (with_reducible refine Kd.C_alloc ?_ _) | (with_reducible refine Kd.C_drewN ?_ _) | (with_reducible refine Kd.C_drew ?_))); (case side2 => exact (Kd.R_reads' HO149.out).2.1); (case side3 => repeat (first | exact (Kd.C_below HR1.out (by repeat (first | (with_reducible first | exact HB.out | apply below_alloc | apply pw_below_drewN | apply below_drew1) | exact HB.out))) | (with_reducible refine Kd.C_alloc ?_ _) | (with_reducible refine Kd.C_drewN ?_ _) | (with_reducible refine Kd.C_drew ?_))); (case side4 => exact HC1.out); rintro e w' ⟨rfl, ⟨nd, rfl⟩⟩))
            go_meet
            case rel => exact ⟨_, (true), (by first | rfl | (simp; done) | (simp [*]; done)), H', ⟨by first | omega | exact Nat.le_refl _⟩, ⟨by (with_reducible repeat (first | apply Kd.R_alloc | apply Kd.R_drewN | apply Kd.R_drew)); exact Kd.R_mono HO143.out (fun _ hk => ⟨hk.1.2.1, ⟨hk.1.2.2.1, ⟨hk.1.2.2.2.1, hk.1.2.2.2.2.1⟩⟩⟩)⟩, ⟨by (with_reducible repeat (first | apply Kd.R_alloc | apply Kd.R_drewN | apply Kd.R_drew)); exact Kd.R_mono HO149.out (fun _ hk => ⟨hk.1.2.1, ⟨hk.1.2.2.1, ⟨hk.1.2.2.2.1, hk.1.2.2.2.2.1⟩⟩⟩)⟩, ⟨by (with_reducible repeat (first | apply Kd.R_alloc | apply Kd.R_drewN | apply Kd.R_drew)); exact Kd.R_mono HO156.out (fun _ hk => ⟨hk.1.2.1, ⟨hk.1.2.2.1, ⟨hk.1.2.2.2.1, hk.1.2.2.2.2.1⟩⟩⟩)⟩, ⟨by (with_reducible repeat (first | apply Kd.R_alloc | apply Kd.R_drewN | apply Kd.R_drew)); exact Kd.R_mono HO163.out (fun _ hk => ⟨hk.1.2.1, ⟨hk.1.2.2.1, ⟨hk.1.2.2.2.1, hk.1.2.2.2.2.1⟩⟩⟩)⟩, ⟨by (with_reducible repeat (first | apply Kd.R_alloc | apply Kd.R_drewN | apply Kd.R_drew)); exact Kd.R_mono HO167.out (fun _ hk => ⟨hk.1.2.1, ⟨hk.1.2.2.1, ⟨hk.1.2.2.2.1, hk.1.2.2.2.2.1⟩⟩⟩)⟩, ⟨by repeat (first | (with_reducible exact HR153.out) | (with_reducible refine Kd.C_alloc ?_ _) | (with_reducible refine Kd.C_drewN ?_ _) | (with_reducible refine Kd.C_drew ?_) | exact HR153.out)⟩, ⟨by repeat (first | (with_reducible exact HR160.out) | (with_reducible refine Kd.C_alloc ?_ _) | (with_reducible refine Kd.C_drewN ?_ _) | (with_reducible refine Kd.C_drew ?_) | exact HR160.out)⟩, ⟨by repeat (first | (with_reducible first | exact HB.out | apply below_alloc | apply pw_below_drewN | apply below_drew1) | exact HB.out)⟩⟩
          ·replace c39 := Bool.eq_false_iff.mpr c39
           subst c39
           have H1 : (furlonglaw03_StripKeeps.j0 k l0 l1 y141 y147 t154 t161 t164 true) = some r := by rw [if_neg (show ¬ (false = true) by decide)] at H; exact H
           clear H
           have H := H1
           clear H1
           have H' := Aside0.mk H
           clear H
           go_wp2_with (first | ((with_reducible refine gate_dst (N := 53) rfl ?_); (try (refine gate_guard (by rfl) ?_; dsimp only)); refine Kd.R_lit (Kd.int .u8) _ 5 ?hg (N := 53) ?hd (xs := ([] : List Int)) (inner := []) (ok := fun _ => True) (okp := fun _ => True) ?hr ?hp (fun _ hk => hk) trivial (Below.refl _ _) (Nat.le_refl _) (by simp) ?_; (case hd => rfl); (case hg => rfl); (case hr => first | (go_simp; done) | (go_simp; rfl)); (case hp => exact (Reps.none _ _)); intro v169 w58 ho59 hb hg_ hnew_; clear hg_ hnew_; (first | rw [← Ny168.out] at ho59 | (simp only [Int.reduceToNat] at ho59; rw [← Ny168.out] at ho59)); have n0_ := Aside0.mk (Kd.R_elder' (by (with_reducible repeat (first | apply Kd.R_alloc | apply Kd.R_drewN | apply Kd.R_drew)); exact HO140.out) (Kd.R_base ho59) hb); have n1_ := Aside0.mk (Kd.R_elder' (by (with_reducible repeat (first | apply Kd.R_alloc | apply Kd.R_drewN | apply Kd.R_drew)); exact HO143.out) (Kd.R_base ho59) hb); have n2_ := Aside0.mk (Kd.R_elder' (by (with_reducible repeat (first | apply Kd.R_alloc | apply Kd.R_drewN | apply Kd.R_drew)); exact HO149.out) (Kd.R_base ho59) hb); have n3_ := Aside0.mk (Kd.R_elder' (by (with_reducible repeat (first | apply Kd.R_alloc | apply Kd.R_drewN | apply Kd.R_drew)); exact HO156.out) (Kd.R_base ho59) hb); have n4_ := Aside0.mk (Kd.R_elder' (by (with_reducible repeat (first | apply Kd.R_alloc | apply Kd.R_drewN | apply Kd.R_drew)); exact HO163.out) (Kd.R_base ho59) hb); have n5_ := Aside0.mk (Kd.R_elder' (by (with_reducible repeat (first | apply Kd.R_alloc | apply Kd.R_drewN | apply Kd.R_drew)); exact HO167.out) (Kd.R_base ho59) hb); have n6_ := Aside0.mk (Kd.R_lower (Kd.R_new' (Kd.R_new' (Kd.R_new' (Kd.R_new' (Kd.R_new' (Kd.R_new' ho59 (Kd.R_lt (by (with_reducible repeat (first | apply Kd.R_alloc | apply Kd.R_drewN | apply Kd.R_drew)); exact HO140.out))) (Kd.R_lt (by (with_reducible repeat (first | apply Kd.R_alloc | apply Kd.R_drewN | apply Kd.R_drew)); exact HO143.out))) (Kd.R_lt (by (with_reducible repeat (first | apply Kd.R_alloc | apply Kd.R_drewN | apply Kd.R_drew)); exact HO149.out))) (Kd.R_lt (by (with_reducible repeat (first | apply Kd.R_alloc | apply Kd.R_drewN | apply Kd.R_drew)); exact HO156.out))) (Kd.R_lt (by (with_reducible repeat (first | apply Kd.R_alloc | apply Kd.R_drewN | apply Kd.R_drew)); exact HO163.out))) (Kd.R_lt (by (with_reducible repeat (first | apply Kd.R_alloc | apply Kd.R_drewN | apply Kd.R_drew)); exact HO167.out))) (below_size (by repeat (first | (with_reducible first | exact HB.out | apply below_alloc | apply pw_below_drewN | apply below_drew1) | exact HB.out)))); have n7_ := Aside0.mk (Kd.C_below (by repeat (first | (with_reducible exact HR153.out) | (with_reducible refine Kd.C_alloc ?_ _) | (with_reducible refine Kd.C_drewN ?_ _) | (with_reducible refine Kd.C_drew ?_) | exact HR153.out)) hb); have n8_ := Aside0.mk (Kd.C_below (by repeat (first | (with_reducible exact HR160.out) | (with_reducible refine Kd.C_alloc ?_ _) | (with_reducible refine Kd.C_drewN ?_ _) | (with_reducible refine Kd.C_drew ?_) | exact HR160.out)) hb); have n9_ := Aside0.mk (below_step (by repeat (first | (with_reducible first | exact HB.out | apply below_alloc | apply pw_below_drewN | apply below_drew1) | exact HB.out)) hb); clear HO140; clear HO143; clear HO149; clear HO156; clear HO163; clear HO167; clear HR153; clear HR160; clear HB; have HO140 := n0_; have HO143 := n1_; have HO149 := n2_; have HO156 := n3_; have HO163 := n4_; have HO167 := n5_; have HO170 := n6_; have HR153 := n7_; have HR160 := n8_; have HB := n9_; clear n0_ n1_ n2_ n3_ n4_ n5_ n6_ n7_ n8_ n9_; clear hb ho59) | ((with_reducible refine gate_builtin (b := .append) (xs := #[.tmp 53, .tmp 54]) rfl ?_); (try (refine gate_guard (by rfl) ?_; dsimp only)); at_builtin; refine Kd.R_append_rows (Kd.int .u8) (w0 := w) w.heap.size rfl (.tmp 53) (.tmp 54) 22 5 (.int .u8 0) 1 rfl Try.underlying22 info5 rfl (by decide) (by omega) v169 y168 l0 _ _ _ (fun k_ => some k_ ≠ (.slice Ao24 y138.length co24 : Value).ownBlock ∧ some k_ ≠ (.slice Ao30 y141.length co30 : Value).ownBlock ∧ some k_ ≠ (.slice Ao33 y147.length co33 : Value).ownBlock ∧ some k_ ≠ (v155 : Value).ownBlock ∧ some k_ ≠ (v162 : Value).ownBlock ∧ some k_ ≠ (v166 : Value).ownBlock) (fun _ => False) rfl rfl ?aO ?aR (fun _ _ h => h) (fun _ h => h.elim) ?aF ?aB ?aS ?aL ?_; (case aR => repeat (first | exact (Kd.C_below HR0.out HB.out) | (with_reducible refine Kd.C_alloc ?_ _) | (with_reducible refine Kd.C_drewN ?_ _) | (with_reducible refine Kd.C_drew ?_))); (case aB => exact (by repeat (first | (with_reducible first | exact HB.out | apply below_alloc | apply pw_below_drewN | apply below_drew1) | exact HB.out))); (case aF => exact (fun k_ hk => ⟨Kd.fresh' (Kd.R_lt (by (with_reducible repeat (first | apply Kd.R_alloc | apply Kd.R_drewN | apply Kd.R_drew)); exact HO140.out)) k_ hk, Kd.fresh' (Kd.R_lt (by (with_reducible repeat (first | apply Kd.R_alloc | apply Kd.R_drewN | apply Kd.R_drew)); exact HO143.out)) k_ hk, Kd.fresh' (Kd.R_lt (by (with_reducible repeat (first | apply Kd.R_alloc | apply Kd.R_drewN | apply Kd.R_drew)); exact HO149.out)) k_ hk, Kd.fresh' (Kd.R_lt (by (with_reducible repeat (first | apply Kd.R_alloc | apply Kd.R_drewN | apply Kd.R_drew)); exact HO156.out)) k_ hk, Kd.fresh' (Kd.R_lt (by (with_reducible repeat (first | apply Kd.R_alloc | apply Kd.R_drewN | apply Kd.R_drew)); exact HO163.out)) k_ hk, Kd.fresh' (Kd.R_lt (by (with_reducible repeat (first | apply Kd.R_alloc | apply Kd.R_drewN | apply Kd.R_drew)); exact HO167.out)) k_ hk⟩)); (case aO => exact (by (with_reducible repeat (first | apply Kd.R_alloc | apply Kd.R_drewN | apply Kd.R_drew)); exact Kd.R_mono HO170.out (fun _ hk => ⟨hk.1.1.1.1.1.2, ⟨hk.1.1.1.1.2, ⟨hk.1.1.1.2, ⟨hk.1.1.2, ⟨hk.1.2, hk.2⟩⟩⟩⟩⟩))); (case aS => exact (below_size (by repeat (first | (with_reducible first | exact HB.out | apply below_alloc | apply pw_below_drewN | apply below_drew1) | exact HB.out)))); (case aL => have := LMc36.out; omega); intro v172 w60 ho hb hg hat; rw [← Ny171.out] at ho; have n0_ := Aside0.mk (Kd.R_after (ok := (fun k_ => some k_ ≠ (.slice Ao30 y141.length co30 : Value).ownBlock ∧ some k_ ≠ (.slice Ao33 y147.length co33 : Value).ownBlock ∧ some k_ ≠ (v155 : Value).ownBlock ∧ some k_ ≠ (v162 : Value).ownBlock ∧ some k_ ≠ (v166 : Value).ownBlock)) (by (with_reducible repeat (first | apply Kd.R_alloc | apply Kd.R_drewN | apply Kd.R_drew)); exact Kd.R_mono HO140.out (fun _ hk => ⟨⟨hk.1.1.1.1.1, ⟨hk.1.1.1.1.2, ⟨hk.1.1.1.2, ⟨hk.1.1.2, hk.1.2⟩⟩⟩⟩, hk.2⟩)) hg hat); have n1_ := Aside0.mk (Kd.R_after (ok := (fun k_ => some k_ ≠ (.slice Ao24 y138.length co24 : Value).ownBlock ∧ some k_ ≠ (.slice Ao33 y147.length co33 : Value).ownBlock ∧ some k_ ≠ (v155 : Value).ownBlock ∧ some k_ ≠ (v162 : Value).ownBlock ∧ some k_ ≠ (v166 : Value).ownBlock)) (by (with_reducible repeat (first | apply Kd.R_alloc | apply Kd.R_drewN | apply Kd.R_drew)); exact Kd.R_mono HO143.out (fun _ hk => ⟨⟨hk.1.1.1.1.1, ⟨hk.1.1.1.1.2, ⟨hk.1.1.1.2, ⟨hk.1.1.2, hk.1.2⟩⟩⟩⟩, hk.2⟩)) hg hat); have n2_ := Aside0.mk (Kd.R_after (ok := (fun k_ => some k_ ≠ (.slice Ao24 y138.length co24 : Value).ownBlock ∧ some k_ ≠ (.slice Ao30 y141.length co30 : Value).ownBlock ∧ some k_ ≠ (v155 : Value).ownBlock ∧ some k_ ≠ (v162 : Value).ownBlock ∧ some k_ ≠ (v166 : Value).ownBlock)) (by (with_reducible repeat (first | apply Kd.R_alloc | apply Kd.R_drewN | apply Kd.R_drew)); exact Kd.R_mono HO149.out (fun _ hk => ⟨⟨hk.1.1.1.1.1, ⟨hk.1.1.1.1.2, ⟨hk.1.1.1.2, ⟨hk.1.1.2, hk.1.2⟩⟩⟩⟩, hk.2⟩)) hg hat); have n3_ := Aside0.mk (Kd.R_after (ok := (fun k_ => some k_ ≠ (.slice Ao24 y138.length co24 : Value).ownBlock ∧ some k_ ≠ (.slice Ao30 y141.length co30 : Value).ownBlock ∧ some k_ ≠ (.slice Ao33 y147.length co33 : Value).ownBlock ∧ some k_ ≠ (v162 : Value).ownBlock ∧ some k_ ≠ (v166 : Value).ownBlock)) (by (with_reducible repeat (first | apply Kd.R_alloc | apply Kd.R_drewN | apply Kd.R_drew)); exact Kd.R_mono HO156.out (fun _ hk => ⟨⟨hk.1.1.1.1.1.2, ⟨hk.1.1.1.1.2, ⟨hk.1.1.1.2, ⟨hk.1.1.2, hk.1.2⟩⟩⟩⟩, hk.2⟩)) hg hat); have n4_ := Aside0.mk (Kd.R_after (ok := (fun k_ => some k_ ≠ (.slice Ao24 y138.length co24 : Value).ownBlock ∧ some k_ ≠ (.slice Ao30 y141.length co30 : Value).ownBlock ∧ some k_ ≠ (.slice Ao33 y147.length co33 : Value).ownBlock ∧ some k_ ≠ (v155 : Value).ownBlock ∧ some k_ ≠ (v166 : Value).ownBlock)) (by (with_reducible repeat (first | apply Kd.R_alloc | apply Kd.R_drewN | apply Kd.R_drew)); exact Kd.R_mono HO163.out (fun _ hk => ⟨⟨hk.1.1.1.1.1.2, ⟨hk.1.1.1.1.2, ⟨hk.1.1.1.2, ⟨hk.1.1.2, hk.1.2⟩⟩⟩⟩, hk.2⟩)) hg hat); have n5_ := Aside0.mk (Kd.R_after (ok := (fun k_ => some k_ ≠ (.slice Ao24 y138.length co24 : Value).ownBlock ∧ some k_ ≠ (.slice Ao30 y141.length co30 : Value).ownBlock ∧ some k_ ≠ (.slice Ao33 y147.length co33 : Value).ownBlock ∧ some k_ ≠ (v155 : Value).ownBlock ∧ some k_ ≠ (v162 : Value).ownBlock)) (by (with_reducible repeat (first | apply Kd.R_alloc | apply Kd.R_drewN | apply Kd.R_drew)); exact Kd.R_mono HO167.out (fun _ hk => ⟨⟨hk.1.1.1.1.1.2, ⟨hk.1.1.1.1.2, ⟨hk.1.1.1.2, ⟨hk.1.1.2, hk.1.2⟩⟩⟩⟩, hk.2⟩)) hg hat); have n6_ := Aside0.mk (hb); have n7_ := Aside0.mk ((show Kd.C (Kd.int .u8) w60 Ao30 y150.length y150 from by rw [Ny150.out]; exact Kd.C_take (m := ((l0.length : Int) : Int).toNat) ((Kd.R_reads' (Kd.R_after (ok := (fun k_ => some k_ ≠ (.slice Ao24 y138.length co24 : Value).ownBlock ∧ some k_ ≠ (.slice Ao33 y147.length co33 : Value).ownBlock ∧ some k_ ≠ (v155 : Value).ownBlock ∧ some k_ ≠ (v162 : Value).ownBlock ∧ some k_ ≠ (v166 : Value).ownBlock)) (by (with_reducible repeat (first | apply Kd.R_alloc | apply Kd.R_drewN | apply Kd.R_drew)); exact Kd.R_mono HO143.out (fun _ hk => ⟨⟨hk.1.1.1.1.1, ⟨hk.1.1.1.1.2, ⟨hk.1.1.1.2, ⟨hk.1.1.2, hk.1.2⟩⟩⟩⟩, hk.2⟩)) hg hat)).2.2) KL29.out)); have n8_ := Aside0.mk ((show Kd.C (Kd.int .u8) w60 Ao30 y150.length y150 from by rw [Ny157.out]; exact Kd.C_take (m := ((l0.length : Int) : Int).toNat) ((Kd.R_reads' (Kd.R_after (ok := (fun k_ => some k_ ≠ (.slice Ao24 y138.length co24 : Value).ownBlock ∧ some k_ ≠ (.slice Ao33 y147.length co33 : Value).ownBlock ∧ some k_ ≠ (v155 : Value).ownBlock ∧ some k_ ≠ (v162 : Value).ownBlock ∧ some k_ ≠ (v166 : Value).ownBlock)) (by (with_reducible repeat (first | apply Kd.R_alloc | apply Kd.R_drewN | apply Kd.R_drew)); exact Kd.R_mono HO143.out (fun _ hk => ⟨⟨hk.1.1.1.1.1, ⟨hk.1.1.1.1.2, ⟨hk.1.1.1.2, ⟨hk.1.1.2, hk.1.2⟩⟩⟩⟩, hk.2⟩)) hg hat)).2.2) KL31.out)); have n9_ := Aside0.mk (ho); clear HO140; clear HO143; clear HO149; clear HO156; clear HO163; clear HO167; clear HB; clear HR153; clear HR160; clear HO170; have HO140 := n0_; have HO143 := n1_; have HO149 := n2_; have HO156 := n3_; have HO163 := n4_; have HO167 := n5_; have HB := n6_; have HR153 := n7_; have HR160 := n8_; have HO173 := n9_; clear n0_ n1_ n2_ n3_ n4_ n5_ n6_ n7_ n8_ n9_; clear ho hb hg hat) | ((with_reducible refine gate_dst (N := 56) rfl ?_); (try (refine gate_guard (by rfl) ?_; dsimp only)); refine Kd.R_lit (Kd.int .u8) _ 5 ?hg (N := 56) ?hd (xs := ([71, 72] : List Int)) (inner := [.int .u8 71, .int .u8 72]) (ok := fun _ => True) (okp := fun _ => True) ?hr ?hp (fun _ hk => hk) trivial (Below.refl _ _) (Nat.le_refl _) (by simp) ?_; (case hd => rfl); (case hg => rfl); (case hr => first | (go_simp; done) | (go_simp; rfl)); (case hp => exact (Reps.one (show Kd.M (Kd.int .u8) _ _ _ 71 [.int .u8 71] from rfl) (Reps.one (show Kd.M (Kd.int .u8) _ _ _ 72 [.int .u8 72] from rfl) (Reps.none _ _)))); intro v175 w61 ho62 hb hg_ hnew_; clear hg_ hnew_; (first | rw [← Ny174.out] at ho62 | (simp only [Int.reduceToNat] at ho62; rw [← Ny174.out] at ho62)); have n0_ := Aside0.mk (Kd.R_elder' (by (with_reducible repeat (first | apply Kd.R_alloc | apply Kd.R_drewN | apply Kd.R_drew)); exact HO140.out) (Kd.R_base ho62) hb); have n1_ := Aside0.mk (Kd.R_elder' (by (with_reducible repeat (first | apply Kd.R_alloc | apply Kd.R_drewN | apply Kd.R_drew)); exact HO143.out) (Kd.R_base ho62) hb); have n2_ := Aside0.mk (Kd.R_elder' (by (with_reducible repeat (first | apply Kd.R_alloc | apply Kd.R_drewN | apply Kd.R_drew)); exact HO149.out) (Kd.R_base ho62) hb); have n3_ := Aside0.mk (Kd.R_elder' (by (with_reducible repeat (first | apply Kd.R_alloc | apply Kd.R_drewN | apply Kd.R_drew)); exact HO156.out) (Kd.R_base ho62) hb); have n4_ := Aside0.mk (Kd.R_elder' (by (with_reducible repeat (first | apply Kd.R_alloc | apply Kd.R_drewN | apply Kd.R_drew)); exact HO163.out) (Kd.R_base ho62) hb); have n5_ := Aside0.mk (Kd.R_elder' (by (with_reducible repeat (first | apply Kd.R_alloc | apply Kd.R_drewN | apply Kd.R_drew)); exact HO167.out) (Kd.R_base ho62) hb); have n6_ := Aside0.mk (Kd.R_elder' (by (with_reducible repeat (first | apply Kd.R_alloc | apply Kd.R_drewN | apply Kd.R_drew)); exact HO173.out) (Kd.R_base ho62) hb); have n7_ := Aside0.mk (Kd.R_lower (Kd.R_new' (Kd.R_new' (Kd.R_new' (Kd.R_new' (Kd.R_new' (Kd.R_new' (Kd.R_new' ho62 (Kd.R_lt (by (with_reducible repeat (first | apply Kd.R_alloc | apply Kd.R_drewN | apply Kd.R_drew)); exact HO140.out))) (Kd.R_lt (by (with_reducible repeat (first | apply Kd.R_alloc | apply Kd.R_drewN | apply Kd.R_drew)); exact HO143.out))) (Kd.R_lt (by (with_reducible repeat (first | apply Kd.R_alloc | apply Kd.R_drewN | apply Kd.R_drew)); exact HO149.out))) (Kd.R_lt (by (with_reducible repeat (first | apply Kd.R_alloc | apply Kd.R_drewN | apply Kd.R_drew)); exact HO156.out))) (Kd.R_lt (by (with_reducible repeat (first | apply Kd.R_alloc | apply Kd.R_drewN | apply Kd.R_drew)); exact HO163.out))) (Kd.R_lt (by (with_reducible repeat (first | apply Kd.R_alloc | apply Kd.R_drewN | apply Kd.R_drew)); exact HO167.out))) (Kd.R_lt (by (with_reducible repeat (first | apply Kd.R_alloc | apply Kd.R_drewN | apply Kd.R_drew)); exact HO173.out))) (below_size (by repeat (first | (with_reducible first | exact HB.out | apply below_alloc | apply pw_below_drewN | apply below_drew1) | exact HB.out)))); have n8_ := Aside0.mk (Kd.C_below (by repeat (first | (with_reducible exact HR153.out) | (with_reducible refine Kd.C_alloc ?_ _) | (with_reducible refine Kd.C_drewN ?_ _) | (with_reducible refine Kd.C_drew ?_) | exact HR153.out)) hb); have n9_ := Aside0.mk (Kd.C_below (by repeat (first | (with_reducible exact HR160.out) | (with_reducible refine Kd.C_alloc ?_ _) | (with_reducible refine Kd.C_drewN ?_ _) | (with_reducible refine Kd.C_drew ?_) | exact HR160.out)) hb); have n10_ := Aside0.mk (below_step (by repeat (first | (with_reducible first | exact HB.out | apply below_alloc | apply pw_below_drewN | apply below_drew1) | exact HB.out)) hb); clear HO140; clear HO143; clear HO149; clear HO156; clear HO163; clear HO167; clear HO173; clear HR153; clear HR160; clear HB; have HO140 := n0_; have HO143 := n1_; have HO149 := n2_; have HO156 := n3_; have HO163 := n4_; have HO167 := n5_; have HO173 := n6_; have HO176 := n7_; have HR153 := n8_; have HR160 := n9_; have HB := n10_; clear n0_ n1_ n2_ n3_ n4_ n5_ n6_ n7_ n8_ n9_ n10_; clear hb ho62; obtain ⟨Ao64, co64, eo64⟩ := Kd.R_slice HO176.out; subst eo64) | ((with_reducible refine gate_builtin (b := .append) (xs := #[.tmp 55, .tmp 56]) rfl ?_); (try (refine gate_guard (by rfl) ?_; dsimp only)); at_builtin; refine Kd.R_append_rows (Kd.int .u8) (w0 := w) w.heap.size rfl (.tmp 55) (.tmp 56) 22 5 (.int .u8 0) 1 rfl Try.underlying22 info5 rfl (by decide) (by omega) v172 y171 y174 _ _ _ (fun k_ => some k_ ≠ (.slice Ao24 y138.length co24 : Value).ownBlock ∧ some k_ ≠ (.slice Ao30 y141.length co30 : Value).ownBlock ∧ some k_ ≠ (.slice Ao33 y147.length co33 : Value).ownBlock ∧ some k_ ≠ (v155 : Value).ownBlock ∧ some k_ ≠ (v162 : Value).ownBlock ∧ some k_ ≠ (v166 : Value).ownBlock ∧ some k_ ≠ (.slice Ao64 y174.length co64 : Value).ownBlock) (fun _ => False) rfl rfl ?aO ?aR (fun _ _ h => h) (fun _ h => h.elim) ?aF ?aB ?aS ?aL ?_; (case aR => repeat (first | exact (Kd.R_reads' HO176.out).2.2 | (with_reducible refine Kd.C_alloc ?_ _) | (with_reducible refine Kd.C_drewN ?_ _) | (with_reducible refine Kd.C_drew ?_))); (case aB => exact (by repeat (first | (with_reducible first | exact HB.out | apply below_alloc | apply pw_below_drewN | apply below_drew1) | exact HB.out))); (case aF => exact (fun k_ hk => ⟨Kd.fresh' (Kd.R_lt (by (with_reducible repeat (first | apply Kd.R_alloc | apply Kd.R_drewN | apply Kd.R_drew)); exact HO140.out)) k_ hk, Kd.fresh' (Kd.R_lt (by (with_reducible repeat (first | apply Kd.R_alloc | apply Kd.R_drewN | apply Kd.R_drew)); exact HO143.out)) k_ hk, Kd.fresh' (Kd.R_lt (by (with_reducible repeat (first | apply Kd.R_alloc | apply Kd.R_drewN | apply Kd.R_drew)); exact HO149.out)) k_ hk, Kd.fresh' (Kd.R_lt (by (with_reducible repeat (first | apply Kd.R_alloc | apply Kd.R_drewN | apply Kd.R_drew)); exact HO156.out)) k_ hk, Kd.fresh' (Kd.R_lt (by (with_reducible repeat (first | apply Kd.R_alloc | apply Kd.R_drewN | apply Kd.R_drew)); exact HO163.out)) k_ hk, Kd.fresh' (Kd.R_lt (by (with_reducible repeat (first | apply Kd.R_alloc | apply Kd.R_drewN | apply Kd.R_drew)); exact HO167.out)) k_ hk, Kd.fresh' (Kd.R_lt (by (with_reducible repeat (first | apply Kd.R_alloc | apply Kd.R_drewN | apply Kd.R_drew)); exact HO176.out)) k_ hk⟩)); (case aO => exact (by (with_reducible repeat (first | apply Kd.R_alloc | apply Kd.R_drewN | apply Kd.R_drew)); exact Kd.R_mono HO173.out (fun _ hk => ⟨hk.1.1, ⟨hk.1.2.1, ⟨hk.1.2.2.1, ⟨hk.1.2.2.2.1, ⟨hk.1.2.2.2.2.1, ⟨hk.1.2.2.2.2.2, hk.2⟩⟩⟩⟩⟩⟩))); (case aS => exact (below_size (by repeat (first | (with_reducible first | exact HB.out | apply below_alloc | apply pw_below_drewN | apply below_drew1) | exact HB.out)))); (case aL => have := LMc37.out; omega); intro v178 w63 ho hb hg hat; rw [← Ny177.out] at ho; have n0_ := Aside0.mk (Kd.R_after (ok := (fun k_ => some k_ ≠ (.slice Ao30 y141.length co30 : Value).ownBlock ∧ some k_ ≠ (.slice Ao33 y147.length co33 : Value).ownBlock ∧ some k_ ≠ (v155 : Value).ownBlock ∧ some k_ ≠ (v162 : Value).ownBlock ∧ some k_ ≠ (v166 : Value).ownBlock ∧ some k_ ≠ (.slice Ao64 y174.length co64 : Value).ownBlock)) (by (with_reducible repeat (first | apply Kd.R_alloc | apply Kd.R_drewN | apply Kd.R_drew)); exact Kd.R_mono HO140.out (fun _ hk => ⟨⟨hk.1.1.1, ⟨hk.1.1.2.1, ⟨hk.1.1.2.2.1, ⟨hk.1.1.2.2.2.1, ⟨hk.1.1.2.2.2.2, hk.2⟩⟩⟩⟩⟩, hk.1.2⟩)) hg hat); have n1_ := Aside0.mk (Kd.R_after (ok := (fun k_ => some k_ ≠ (.slice Ao24 y138.length co24 : Value).ownBlock ∧ some k_ ≠ (.slice Ao33 y147.length co33 : Value).ownBlock ∧ some k_ ≠ (v155 : Value).ownBlock ∧ some k_ ≠ (v162 : Value).ownBlock ∧ some k_ ≠ (v166 : Value).ownBlock ∧ some k_ ≠ (.slice Ao64 y174.length co64 : Value).ownBlock)) (by (with_reducible repeat (first | apply Kd.R_alloc | apply Kd.R_drewN | apply Kd.R_drew)); exact Kd.R_mono HO143.out (fun _ hk => ⟨⟨hk.1.1.1, ⟨hk.1.1.2.1, ⟨hk.1.1.2.2.1, ⟨hk.1.1.2.2.2.1, ⟨hk.1.1.2.2.2.2, hk.2⟩⟩⟩⟩⟩, hk.1.2⟩)) hg hat); have n2_ := Aside0.mk (Kd.R_after (ok := (fun k_ => some k_ ≠ (.slice Ao24 y138.length co24 : Value).ownBlock ∧ some k_ ≠ (.slice Ao30 y141.length co30 : Value).ownBlock ∧ some k_ ≠ (v155 : Value).ownBlock ∧ some k_ ≠ (v162 : Value).ownBlock ∧ some k_ ≠ (v166 : Value).ownBlock ∧ some k_ ≠ (.slice Ao64 y174.length co64 : Value).ownBlock)) (by (with_reducible repeat (first | apply Kd.R_alloc | apply Kd.R_drewN | apply Kd.R_drew)); exact Kd.R_mono HO149.out (fun _ hk => ⟨⟨hk.1.1.1, ⟨hk.1.1.2.1, ⟨hk.1.1.2.2.1, ⟨hk.1.1.2.2.2.1, ⟨hk.1.1.2.2.2.2, hk.2⟩⟩⟩⟩⟩, hk.1.2⟩)) hg hat); have n3_ := Aside0.mk (Kd.R_after (ok := (fun k_ => some k_ ≠ (.slice Ao24 y138.length co24 : Value).ownBlock ∧ some k_ ≠ (.slice Ao30 y141.length co30 : Value).ownBlock ∧ some k_ ≠ (.slice Ao33 y147.length co33 : Value).ownBlock ∧ some k_ ≠ (v162 : Value).ownBlock ∧ some k_ ≠ (v166 : Value).ownBlock ∧ some k_ ≠ (.slice Ao64 y174.length co64 : Value).ownBlock)) (by (with_reducible repeat (first | apply Kd.R_alloc | apply Kd.R_drewN | apply Kd.R_drew)); exact Kd.R_mono HO156.out (fun _ hk => ⟨⟨hk.1.1.1, ⟨hk.1.1.2.1, ⟨hk.1.1.2.2.1, ⟨hk.1.1.2.2.2.1, ⟨hk.1.1.2.2.2.2, hk.2⟩⟩⟩⟩⟩, hk.1.2⟩)) hg hat); have n4_ := Aside0.mk (Kd.R_after (ok := (fun k_ => some k_ ≠ (.slice Ao24 y138.length co24 : Value).ownBlock ∧ some k_ ≠ (.slice Ao30 y141.length co30 : Value).ownBlock ∧ some k_ ≠ (.slice Ao33 y147.length co33 : Value).ownBlock ∧ some k_ ≠ (v155 : Value).ownBlock ∧ some k_ ≠ (v166 : Value).ownBlock ∧ some k_ ≠ (.slice Ao64 y174.length co64 : Value).ownBlock)) (by (with_reducible repeat (first | apply Kd.R_alloc | apply Kd.R_drewN | apply Kd.R_drew)); exact Kd.R_mono HO163.out (fun _ hk => ⟨⟨hk.1.1.1, ⟨hk.1.1.2.1, ⟨hk.1.1.2.2.1, ⟨hk.1.1.2.2.2.1, ⟨hk.1.1.2.2.2.2, hk.2⟩⟩⟩⟩⟩, hk.1.2⟩)) hg hat); have n5_ := Aside0.mk (Kd.R_after (ok := (fun k_ => some k_ ≠ (.slice Ao24 y138.length co24 : Value).ownBlock ∧ some k_ ≠ (.slice Ao30 y141.length co30 : Value).ownBlock ∧ some k_ ≠ (.slice Ao33 y147.length co33 : Value).ownBlock ∧ some k_ ≠ (v155 : Value).ownBlock ∧ some k_ ≠ (v162 : Value).ownBlock ∧ some k_ ≠ (.slice Ao64 y174.length co64 : Value).ownBlock)) (by (with_reducible repeat (first | apply Kd.R_alloc | apply Kd.R_drewN | apply Kd.R_drew)); exact Kd.R_mono HO167.out (fun _ hk => ⟨⟨hk.1.1.1, ⟨hk.1.1.2.1, ⟨hk.1.1.2.2.1, ⟨hk.1.1.2.2.2.1, ⟨hk.1.1.2.2.2.2, hk.2⟩⟩⟩⟩⟩, hk.1.2⟩)) hg hat); have n6_ := Aside0.mk (Kd.R_after (ok := (fun k_ => some k_ ≠ (.slice Ao24 y138.length co24 : Value).ownBlock ∧ some k_ ≠ (.slice Ao30 y141.length co30 : Value).ownBlock ∧ some k_ ≠ (.slice Ao33 y147.length co33 : Value).ownBlock ∧ some k_ ≠ (v155 : Value).ownBlock ∧ some k_ ≠ (v162 : Value).ownBlock ∧ some k_ ≠ (v166 : Value).ownBlock)) (by (with_reducible repeat (first | apply Kd.R_alloc | apply Kd.R_drewN | apply Kd.R_drew)); exact Kd.R_mono HO176.out (fun _ hk => ⟨⟨hk.1.1.1.1.1.1.2, ⟨hk.1.1.1.1.1.2, ⟨hk.1.1.1.1.2, ⟨hk.1.1.1.2, ⟨hk.1.1.2, hk.1.2⟩⟩⟩⟩⟩, hk.2⟩)) hg hat); have n7_ := Aside0.mk (hb); have n8_ := Aside0.mk ((show Kd.C (Kd.int .u8) w63 Ao30 y150.length y150 from by rw [Ny150.out]; exact Kd.C_take (m := ((l0.length : Int) : Int).toNat) ((Kd.R_reads' (Kd.R_after (ok := (fun k_ => some k_ ≠ (.slice Ao24 y138.length co24 : Value).ownBlock ∧ some k_ ≠ (.slice Ao33 y147.length co33 : Value).ownBlock ∧ some k_ ≠ (v155 : Value).ownBlock ∧ some k_ ≠ (v162 : Value).ownBlock ∧ some k_ ≠ (v166 : Value).ownBlock ∧ some k_ ≠ (.slice Ao64 y174.length co64 : Value).ownBlock)) (by (with_reducible repeat (first | apply Kd.R_alloc | apply Kd.R_drewN | apply Kd.R_drew)); exact Kd.R_mono HO143.out (fun _ hk => ⟨⟨hk.1.1.1, ⟨hk.1.1.2.1, ⟨hk.1.1.2.2.1, ⟨hk.1.1.2.2.2.1, ⟨hk.1.1.2.2.2.2, hk.2⟩⟩⟩⟩⟩, hk.1.2⟩)) hg hat)).2.2) KL29.out)); have n9_ := Aside0.mk ((show Kd.C (Kd.int .u8) w63 Ao30 y150.length y150 from by rw [Ny157.out]; exact Kd.C_take (m := ((l0.length : Int) : Int).toNat) ((Kd.R_reads' (Kd.R_after (ok := (fun k_ => some k_ ≠ (.slice Ao24 y138.length co24 : Value).ownBlock ∧ some k_ ≠ (.slice Ao33 y147.length co33 : Value).ownBlock ∧ some k_ ≠ (v155 : Value).ownBlock ∧ some k_ ≠ (v162 : Value).ownBlock ∧ some k_ ≠ (v166 : Value).ownBlock ∧ some k_ ≠ (.slice Ao64 y174.length co64 : Value).ownBlock)) (by (with_reducible repeat (first | apply Kd.R_alloc | apply Kd.R_drewN | apply Kd.R_drew)); exact Kd.R_mono HO143.out (fun _ hk => ⟨⟨hk.1.1.1, ⟨hk.1.1.2.1, ⟨hk.1.1.2.2.1, ⟨hk.1.1.2.2.2.1, ⟨hk.1.1.2.2.2.2, hk.2⟩⟩⟩⟩⟩, hk.1.2⟩)) hg hat)).2.2) KL31.out)); have n10_ := Aside0.mk (ho); clear HO140; clear HO143; clear HO149; clear HO156; clear HO163; clear HO167; clear HO176; clear HB; clear HR153; clear HR160; clear HO173; have HO140 := n0_; have HO143 := n1_; have HO149 := n2_; have HO156 := n3_; have HO163 := n4_; have HO167 := n5_; have HO176 := n6_; have HB := n7_; have HR153 := n8_; have HR160 := n9_; have HO179 := n10_; clear n0_ n1_ n2_ n3_ n4_ n5_ n6_ n7_ n8_ n9_ n10_; clear ho hb hg hat; obtain ⟨Ao65, co65, eo65⟩ := Kd.R_slice HO179.out; subst eo65) | ((with_reducible refine gate_callee (f := 14) rfl ?_); refine goesL_ (some 58) rfl rfl Try.func14 (by kernel_rfl) rfl #[.slice Ao30 y141.length co30, .slice Ao65 y177.length co65] rfl (by (try simp only [List.map_toArray, List.map_cons, List.map_nil]); first | done | rfl | (simp only [List.length_drop, List.length_take]; rfl)) ?_; (with_reducible refine (furlongref01_Bytes.calls _ _ y141 _ _ y177 false _ ?side1 ?side2 ?side3 ?side4 A38.out).mono ?_); (case side1 => repeat (first | exact (Kd.R_reads' HO143.out).2.2 | (with_reducible refine Kd.C_alloc ?_ _) | (with_reducible refine Kd.C_drewN ?_ _) | (with_reducible refine Kd.C_drew ?_))); (case side2 => exact (Kd.R_reads' HO143.out).2.1); (case side3 => repeat (first | exact (Kd.R_reads' HO179.out).2.2 | (with_reducible refine Kd.C_alloc ?_ _) | (with_reducible refine Kd.C_drewN ?_ _) | (with_reducible refine Kd.C_drew ?_))); (case side4 => exact (Kd.R_reads' HO179.out).2.1); rintro e w' ⟨rfl, ⟨nd, rfl⟩⟩; refine ⟨_, rfl, ?_⟩))
           go_meet
           case rel => exact ⟨_, (true), (by first | rfl | (simp; done) | (simp [*]; done)), H', ⟨by first | omega | exact Nat.le_refl _⟩, ⟨by (with_reducible repeat (first | apply Kd.R_alloc | apply Kd.R_drewN | apply Kd.R_drew)); exact Kd.R_mono HO143.out (fun _ hk => ⟨hk.1.2.1, ⟨hk.1.2.2.1, ⟨hk.1.2.2.2.1, hk.1.2.2.2.2.1⟩⟩⟩)⟩, ⟨by (with_reducible repeat (first | apply Kd.R_alloc | apply Kd.R_drewN | apply Kd.R_drew)); exact Kd.R_mono HO149.out (fun _ hk => ⟨hk.1.2.1, ⟨hk.1.2.2.1, ⟨hk.1.2.2.2.1, hk.1.2.2.2.2.1⟩⟩⟩)⟩, ⟨by (with_reducible repeat (first | apply Kd.R_alloc | apply Kd.R_drewN | apply Kd.R_drew)); exact Kd.R_mono HO156.out (fun _ hk => ⟨hk.1.2.1, ⟨hk.1.2.2.1, ⟨hk.1.2.2.2.1, hk.1.2.2.2.2.1⟩⟩⟩)⟩, ⟨by (with_reducible repeat (first | apply Kd.R_alloc | apply Kd.R_drewN | apply Kd.R_drew)); exact Kd.R_mono HO163.out (fun _ hk => ⟨hk.1.2.1, ⟨hk.1.2.2.1, ⟨hk.1.2.2.2.1, hk.1.2.2.2.2.1⟩⟩⟩)⟩, ⟨by (with_reducible repeat (first | apply Kd.R_alloc | apply Kd.R_drewN | apply Kd.R_drew)); exact Kd.R_mono HO167.out (fun _ hk => ⟨hk.1.2.1, ⟨hk.1.2.2.1, ⟨hk.1.2.2.2.1, hk.1.2.2.2.2.1⟩⟩⟩)⟩, ⟨by repeat (first | (with_reducible exact HR153.out) | (with_reducible refine Kd.C_alloc ?_ _) | (with_reducible refine Kd.C_drewN ?_ _) | (with_reducible refine Kd.C_drew ?_) | exact HR153.out)⟩, ⟨by repeat (first | (with_reducible exact HR160.out) | (with_reducible refine Kd.C_alloc ?_ _) | (with_reducible refine Kd.C_drewN ?_ _) | (with_reducible refine Kd.C_drew ?_) | exact HR160.out)⟩, ⟨by repeat (first | (with_reducible first | exact HB.out | apply below_alloc | apply pw_below_drewN | apply below_drew1) | exact HB.out)⟩⟩
         ·rw [if_neg c37] at H
          exact absurd H (by simp)
        ·rw [if_neg c36] at H
         exact absurd H (by simp)
       case rest =>
        clear HC16
        try clear c1
        try clear c2
        try clear p2
        try clear q2
        try clear c3
        try clear q3
        try clear c4
        try clear c5
        try clear c6
        try clear c7
        try clear c8
        try clear c9
        try clear c9b0
        try clear c9b1
        try clear c10
        try clear c10b0
        try clear c10b1
        try clear c11
        try clear c12
        try clear c12b0
        try clear c13
        try clear c13b0
        try clear c14
        try clear c17
        try clear c25
        try clear q29
        try clear q31
        try clear c36
        try clear c37
        try clear c39
        try clear c41
        try clear q29
        try clear q31
        obtain ⟨kq, x73_15, rfl, HA, HJ15, HO_7, HO_8, HO_9, HO_10, HO_11, HR153, HR160, HB⟩ := hcut
        cases kq with
        | zero => exact absurd HA.out (by simp [furlonglaw03_StripKeeps.j0])
        | succ kj15 =>
         have H := HA.out
         clear HA
         simp only [furlonglaw03_StripKeeps.j0] at H
         by_cases c66 : x73_15 = true
         ·subst c66
          have H1 : (some false) = some r := by rw [if_pos rfl] at H; exact H
          clear H
          have H := H1
          clear H1
          obtain rfl := Option.some.inj H
          go_wp2
          go_ret
          exact ⟨by first | rfl | (simp [errW_none, errW_some] <;> rfl) | (simp [*, errW_none, errW_some] <;> rfl), by repeat (first | (with_reducible first | exact HB.out | apply below_alloc | apply pw_below_drewN | apply below_drew1) | exact HB.out)⟩
         ·replace c66 := Bool.eq_false_iff.mpr c66
          subst c66
          have H1 : (furlonglaw03_StripKeeps.l0 kj15 l0 l1 y141 y147 t154 t161 t164 (t154.length : Int) 0) = some r := by rw [if_neg (show ¬ (false = true) by decide)] at H; exact H
          clear H
          have H := H1
          clear H1
          have H' := Aside0.mk H
          clear H
          obtain ⟨Ao67, co67, eo67⟩ := Kd.R_slice HO_9.out
          subst eo67
          go_wp2
          go_loopg [76] kj15 (fun kq v76 w' => ∃ (x9_2 : List Int) (x76_2 : Int), v76 = .int .i64 x76_2 ∧ Aside0 (furlonglaw03_StripKeeps.l0 kq l0 l1 y141 y147 x9_2 t161 t164 (t154.length : Int) x76_2 = some r) ∧ Aside0 (kq ≤ kj15) ∧ Aside0 (Kd.R (Kd.int .u8) 5 w' w.heap.size (fun k_ => some k_ ≠ ((.slice Ao33 y147.length co33) : Value).ownBlock ∧ some k_ ≠ ((.slice Ao67 t154.length co67) : Value).ownBlock ∧ some k_ ≠ (v162 : Value).ownBlock ∧ some k_ ≠ (v166 : Value).ownBlock) (.slice Ao30 y141.length co30) y141) ∧ Aside0 (Kd.R (Kd.int .u8) 5 w' w.heap.size (fun k_ => some k_ ≠ ((.slice Ao30 y141.length co30) : Value).ownBlock ∧ some k_ ≠ ((.slice Ao67 t154.length co67) : Value).ownBlock ∧ some k_ ≠ (v162 : Value).ownBlock ∧ some k_ ≠ (v166 : Value).ownBlock) (.slice Ao33 y147.length co33) y147) ∧ Aside0 (Kd.R (Kd.int .u8) 5 w' w.heap.size (fun k_ => some k_ ≠ ((.slice Ao30 y141.length co30) : Value).ownBlock ∧ some k_ ≠ ((.slice Ao33 y147.length co33) : Value).ownBlock ∧ some k_ ≠ (v162 : Value).ownBlock ∧ some k_ ≠ (v166 : Value).ownBlock) (.slice Ao67 t154.length co67) x9_2) ∧ Aside0 (Kd.R (Kd.int .u8) 5 w' w.heap.size (fun k_ => some k_ ≠ ((.slice Ao30 y141.length co30) : Value).ownBlock ∧ some k_ ≠ ((.slice Ao33 y147.length co33) : Value).ownBlock ∧ some k_ ≠ ((.slice Ao67 t154.length co67) : Value).ownBlock ∧ some k_ ≠ (v166 : Value).ownBlock) v162 t161) ∧ Aside0 (Kd.R (Kd.int .u8) 5 w' w.heap.size (fun k_ => some k_ ≠ ((.slice Ao30 y141.length co30) : Value).ownBlock ∧ some k_ ≠ ((.slice Ao33 y147.length co33) : Value).ownBlock ∧ some k_ ≠ ((.slice Ao67 t154.length co67) : Value).ownBlock ∧ some k_ ≠ (v162 : Value).ownBlock) v166 t164) ∧ Aside0 (Below w.heap.size w w'))
          case atStart => exact ⟨(t154), (0), (by first | rfl | (simp; done) | (simp [*]; done)), H', ⟨Nat.le_refl _⟩, ⟨by (with_reducible repeat (first | apply Kd.R_alloc | apply Kd.R_drewN | apply Kd.R_drew)); exact HO_7.out⟩, ⟨by (with_reducible repeat (first | apply Kd.R_alloc | apply Kd.R_drewN | apply Kd.R_drew)); exact HO_8.out⟩, ⟨by (with_reducible repeat (first | apply Kd.R_alloc | apply Kd.R_drewN | apply Kd.R_drew)); exact HO_9.out⟩, ⟨by (with_reducible repeat (first | apply Kd.R_alloc | apply Kd.R_drewN | apply Kd.R_drew)); exact HO_10.out⟩, ⟨by (with_reducible repeat (first | apply Kd.R_alloc | apply Kd.R_drewN | apply Kd.R_drew)); exact HO_11.out⟩, ⟨by repeat (first | (with_reducible first | exact HB.out | apply below_alloc | apply pw_below_drewN | apply below_drew1) | exact HB.out)⟩⟩
          case round =>
           clear H'
           try clear c1
           try clear c2
           try clear p2
           try clear q2
           try clear c3
           try clear q3
           try clear c4
           try clear c5
           try clear c6
           try clear c7
           try clear c8
           try clear c9
           try clear c9b0
           try clear c9b1
           try clear c10
           try clear c10b0
           try clear c10b1
           try clear c11
           try clear c12
           try clear c12b0
           try clear c13
           try clear c13b0
           try clear c14
           try clear c17
           try clear c25
           try clear q29
           try clear q31
           try clear c36
           try clear c37
           try clear c39
           try clear c41
           try clear c66
           try clear p2
           try clear q2
           try clear q29
           try clear q3
           try clear q31
           obtain ⟨x9_2, x76_2, rfl, HA, HK2, HO_7, HO_8, HO_9, HO_10, HO_11, HB⟩ := hrel
           have hl9_2 := (Kd.R_reads' HO_9.out).1
           rw [hl9_2] at HO_9
           (try simp only [hl9_2])
           (try simp only [hl9_2] at HO_7)
           (try simp only [hl9_2] at HO_8)
           (try simp only [hl9_2] at HO_10)
           (try simp only [hl9_2] at HO_11)
           cases gk with
           | zero => exact absurd HA.out (by simp [furlonglaw03_StripKeeps.l0])
           | succ k2 =>
            have H := HA.out
            clear HA
            simp only [furlonglaw03_StripKeeps.l0] at H
            by_cases c68 : x76_2 < (t154.length : Int)
            ·rw [if_pos c68] at H
             have c68b0 : decide (x76_2 < (t154.length : Int)) = true := decide_eq_true c68
             clear c68
             by_cases c69 : 0 ≤ x76_2
             ·rw [if_pos c69] at H
              have c69b0 : decide (0 ≤ x76_2) = true := decide_eq_true c69
              clear c69
              by_cases c70 : x76_2 < (x9_2.length : Int)
              ·rw [if_pos c70] at H
               have c70b0 : decide (x76_2 < (x9_2.length : Int)) = true := decide_eq_true c70
               clear c70
               obtain ⟨y183, hy183⟩ : ∃ y_ : List Int, y_ = (x9_2.set (x76_2 : Int).toNat (Go.bits .xor .u8 (rd x9_2 x76_2) 1)) := ⟨_, rfl⟩
               replace H : (furlonglaw03_StripKeeps.l0 k2 l0 l1 y141 y147 y183 t161 t164 (t154.length : Int) (wrap64 (x76_2 + 1))) = some r := by first | (rw [hy183]; with_reducible exact H) | (have H2_ := (Option.bind_some _ _).symm.trans H; rw [hy183]; with_reducible exact H2_) | (have H2_ := (Option.bind_some _ _).symm.trans H; with_reducible exact H2_) | with_reducible exact H | (rw [hy183]; exact H) | exact H
               have Ny183 := Aside0.mk hy183
               clear hy183
               have H' := Aside0.mk H
               clear H
               have p182 : 0 ≤ (x76_2 : Int) := of_decide_eq_true (by first | (with_reducible assumption) | assumption)
               have q182 : x76_2 < (x9_2.length : Int) := of_decide_eq_true (by first | (with_reducible assumption) | assumption)
               obtain ⟨ad182, e182, hx182_0⟩ := Kd.at_int (Kd.R_reads' HO_9.out).2.2 x76_2 p182 q182
               cases e182
               replace p182 := eq_true p182
               replace q182 := eq_true q182
               have p71 : 0 ≤ (x76_2 : Int) := of_decide_eq_true (by first | (with_reducible assumption) | assumption)
               have q71 : (x76_2 : Int) < ((x9_2.length : Int) : Int) := of_decide_eq_true (by first | (with_reducible assumption) | assumption)
               obtain ⟨go71, co71, eo71, gb71, gl71, cl71, HG71⟩ := Kd.R_form HO_9.out (by omega)
               (first | cases eo71 | (injection eo71 with ea_ en_ ec_; (first | subst ea_ | (injection ea_ with ea_; subst ea_)); subst ec_; clear en_))
               have GB71 := Aside0.mk gb71
               have GG71 := Aside0.mk HG71
               clear gb71 gl71 HG71
               (first | simp only [add_plain] at hx182_0 | skip)
               obtain ⟨hx71_0, hf71_0⟩ := Kd.R_celln 0 HO_9.out (x76_2 : Int) p71 q71
               replace p71 := eq_true p71
               replace q71 := eq_true q71
               have HP72 := Kd.R_putg HO_9.out (x76_2 : Int) (Go.bits .xor .u8 (rd x9_2 x76_2) 1)
               go_wp2_with (first | ((with_reducible refine gate_store (t := 5) (p := 84) rfl ?_); refine store_event (t := 5) (p := 84) (v := ?vo_w73) (w1 := (wr.setCell ⟨go71, (x76_2 : Int).toNat, none⟩ (.int .u8 (Go.bits .xor .u8 (rd x9_2 x76_2) 1)))) ?hg ?ho ?hn ?hr ?_; (case ho => rfl); (case hg => rfl); (case hn => rfl); (case hr => first | (go_simp; done) | (go_simp; rfl)); intro w73 hw; have hg : wr.grownBy w73 (some go71) := (by rw [hw]; exact HP72.2); have hp_ : Kd.R (Kd.int .u8) 5 w73 w.heap.size (fun k_ => some k_ ≠ (.slice Ao30 y141.length co30 : Value).ownBlock ∧ some k_ ≠ (.slice Ao33 y147.length co33 : Value).ownBlock ∧ some k_ ≠ (v162 : Value).ownBlock ∧ some k_ ≠ (v166 : Value).ownBlock) (.slice (some ⟨go71, 0, none⟩) x9_2.length co67) y183 := (by rw [hw, Ny183.out]; exact HP72.1); clear HP72; have n0_ := Aside0.mk (Kd.R_after (v := (.slice (some ⟨go71, 0, none⟩) x9_2.length co67)) (v1 := (.slice (some ⟨go71, 0, none⟩) x9_2.length co67)) (ok := (fun k_ => some k_ ≠ (.slice Ao33 y147.length co33 : Value).ownBlock ∧ some k_ ≠ (v162 : Value).ownBlock ∧ some k_ ≠ (v166 : Value).ownBlock)) (by (with_reducible repeat (first | apply Kd.R_alloc | apply Kd.R_drewN | apply Kd.R_drew)); exact Kd.R_mono HO_7.out (fun _ hk => ⟨⟨hk.1, ⟨hk.2.2.1, hk.2.2.2⟩⟩, hk.2.1⟩)) hg (.inl rfl)); have n1_ := Aside0.mk (Kd.R_after (v := (.slice (some ⟨go71, 0, none⟩) x9_2.length co67)) (v1 := (.slice (some ⟨go71, 0, none⟩) x9_2.length co67)) (ok := (fun k_ => some k_ ≠ (.slice Ao30 y141.length co30 : Value).ownBlock ∧ some k_ ≠ (v162 : Value).ownBlock ∧ some k_ ≠ (v166 : Value).ownBlock)) (by (with_reducible repeat (first | apply Kd.R_alloc | apply Kd.R_drewN | apply Kd.R_drew)); exact Kd.R_mono HO_8.out (fun _ hk => ⟨⟨hk.1, ⟨hk.2.2.1, hk.2.2.2⟩⟩, hk.2.1⟩)) hg (.inl rfl)); have n2_ := Aside0.mk (hp_); have n3_ := Aside0.mk (Kd.R_after (v := (.slice (some ⟨go71, 0, none⟩) x9_2.length co67)) (v1 := (.slice (some ⟨go71, 0, none⟩) x9_2.length co67)) (ok := (fun k_ => some k_ ≠ (.slice Ao30 y141.length co30 : Value).ownBlock ∧ some k_ ≠ (.slice Ao33 y147.length co33 : Value).ownBlock ∧ some k_ ≠ (v166 : Value).ownBlock)) (by (with_reducible repeat (first | apply Kd.R_alloc | apply Kd.R_drewN | apply Kd.R_drew)); exact Kd.R_mono HO_10.out (fun _ hk => ⟨⟨hk.1, ⟨hk.2.1, hk.2.2.2⟩⟩, hk.2.2.1⟩)) hg (.inl rfl)); have n4_ := Aside0.mk (Kd.R_after (v := (.slice (some ⟨go71, 0, none⟩) x9_2.length co67)) (v1 := (.slice (some ⟨go71, 0, none⟩) x9_2.length co67)) (ok := (fun k_ => some k_ ≠ (.slice Ao30 y141.length co30 : Value).ownBlock ∧ some k_ ≠ (.slice Ao33 y147.length co33 : Value).ownBlock ∧ some k_ ≠ (v162 : Value).ownBlock)) (by (with_reducible repeat (first | apply Kd.R_alloc | apply Kd.R_drewN | apply Kd.R_drew)); exact Kd.R_mono HO_11.out (fun _ hk => ⟨⟨hk.1, ⟨hk.2.1, hk.2.2.2⟩⟩, hk.2.2.1⟩)) hg (.inl rfl)); have n5_ := Aside0.mk ((by rw [hw]; exact below_set (HB.out) GB71.out : Below w.heap.size w w73)); clear HO_7; clear HO_8; clear HO_9; clear HO_10; clear HO_11; clear HB; have HO_7 := n0_; have HO_8 := n1_; have HO_9 := n2_; have HO_10 := n3_; have HO_11 := n4_; have HB := n5_; clear n0_ n1_ n2_ n3_ n4_ n5_; clear hg hw hp_))
               (try simp only [← hl9_2])
               go_roundg k2
               case measure => have := HJ15.out; have := HK2.out; omega
               case rel => exact ⟨(y183), (wrap64 (x76_2 + 1)), (by first | rfl | (simp; done) | (simp [*]; done)), H', ⟨by have := HJ15.out; have := HK2.out; omega⟩, ⟨by (try simp only [hl9_2]); (with_reducible repeat (first | apply Kd.R_alloc | apply Kd.R_drewN | apply Kd.R_drew)); exact Kd.R_mono HO_7.out (fun _ hk => ⟨hk.1.1, ⟨hk.2, ⟨hk.1.2.1, hk.1.2.2⟩⟩⟩)⟩, ⟨by (try simp only [hl9_2]); (with_reducible repeat (first | apply Kd.R_alloc | apply Kd.R_drewN | apply Kd.R_drew)); exact Kd.R_mono HO_8.out (fun _ hk => ⟨hk.1.1, ⟨hk.2, ⟨hk.1.2.1, hk.1.2.2⟩⟩⟩)⟩, ⟨by (try simp only [hl9_2]); (with_reducible repeat (first | apply Kd.R_alloc | apply Kd.R_drewN | apply Kd.R_drew)); exact HO_9.out⟩, ⟨by (try simp only [hl9_2]); (with_reducible repeat (first | apply Kd.R_alloc | apply Kd.R_drewN | apply Kd.R_drew)); exact Kd.R_mono HO_10.out (fun _ hk => ⟨hk.1.1, ⟨hk.1.2.1, ⟨hk.2, hk.1.2.2⟩⟩⟩)⟩, ⟨by (try simp only [hl9_2]); (with_reducible repeat (first | apply Kd.R_alloc | apply Kd.R_drewN | apply Kd.R_drew)); exact Kd.R_mono HO_11.out (fun _ hk => ⟨hk.1.1, ⟨hk.1.2.1, ⟨hk.2, hk.1.2.2⟩⟩⟩)⟩, ⟨by repeat (first | (with_reducible first | exact HB.out | apply below_alloc | apply pw_below_drewN | apply below_drew1) | exact HB.out)⟩⟩
              ·rw [if_neg c70] at H
               exact absurd H (by simp)
             ·rw [if_neg c69] at H
              exact absurd H (by simp)
            ·rw [if_neg c68] at H
             have c68b0 : decide (x76_2 < (t154.length : Int)) = false := decide_eq_false c68
             have c68d : decide (x76_2 < (x9_2.length : Int)) = false := by rw [← hl9_2]; exact c68b0
             clear c68
             have H' := Aside0.mk H
             clear H
             obtain ⟨Ao74, co74, eo74⟩ := Kd.R_slice HO_11.out
             subst eo74
             go_wp2
             go_loopg [88] k2 (fun kq v88 w' => ∃ (x11_3 : List Int) (x88_3 : Int), v88 = .int .i64 x88_3 ∧ Aside0 (furlonglaw03_StripKeeps.l1 kq l0 l1 y141 y147 t161 x11_3 (t164.length : Int) x88_3 = some r) ∧ Aside0 (kq ≤ k2) ∧ Aside0 (Kd.R (Kd.int .u8) 5 w' w.heap.size (fun k_ => some k_ ≠ ((.slice Ao33 y147.length co33) : Value).ownBlock ∧ some k_ ≠ (v162 : Value).ownBlock ∧ some k_ ≠ ((.slice Ao74 t164.length co74) : Value).ownBlock) (.slice Ao30 y141.length co30) y141) ∧ Aside0 (Kd.R (Kd.int .u8) 5 w' w.heap.size (fun k_ => some k_ ≠ ((.slice Ao30 y141.length co30) : Value).ownBlock ∧ some k_ ≠ (v162 : Value).ownBlock ∧ some k_ ≠ ((.slice Ao74 t164.length co74) : Value).ownBlock) (.slice Ao33 y147.length co33) y147) ∧ Aside0 (Kd.R (Kd.int .u8) 5 w' w.heap.size (fun k_ => some k_ ≠ ((.slice Ao30 y141.length co30) : Value).ownBlock ∧ some k_ ≠ ((.slice Ao33 y147.length co33) : Value).ownBlock ∧ some k_ ≠ ((.slice Ao74 t164.length co74) : Value).ownBlock) v162 t161) ∧ Aside0 (Kd.R (Kd.int .u8) 5 w' w.heap.size (fun k_ => some k_ ≠ ((.slice Ao30 y141.length co30) : Value).ownBlock ∧ some k_ ≠ ((.slice Ao33 y147.length co33) : Value).ownBlock ∧ some k_ ≠ (v162 : Value).ownBlock) (.slice Ao74 t164.length co74) x11_3) ∧ Aside0 (Below w.heap.size w w'))
             case atStart => exact ⟨(t164), (0), (by first | rfl | (simp; done) | (simp [*]; done)), H', ⟨Nat.le_refl _⟩, ⟨by (try simp only [hl9_2]); (with_reducible repeat (first | apply Kd.R_alloc | apply Kd.R_drewN | apply Kd.R_drew)); exact Kd.R_mono HO_7.out (fun _ hk => ⟨hk.1, ⟨hk.2.2.1, hk.2.2.2⟩⟩)⟩, ⟨by (try simp only [hl9_2]); (with_reducible repeat (first | apply Kd.R_alloc | apply Kd.R_drewN | apply Kd.R_drew)); exact Kd.R_mono HO_8.out (fun _ hk => ⟨hk.1, ⟨hk.2.2.1, hk.2.2.2⟩⟩)⟩, ⟨by (try simp only [hl9_2]); (with_reducible repeat (first | apply Kd.R_alloc | apply Kd.R_drewN | apply Kd.R_drew)); exact Kd.R_mono HO_10.out (fun _ hk => ⟨hk.1, ⟨hk.2.1, hk.2.2.2⟩⟩)⟩, ⟨by (try simp only [hl9_2]); (with_reducible repeat (first | apply Kd.R_alloc | apply Kd.R_drewN | apply Kd.R_drew)); exact Kd.R_mono HO_11.out (fun _ hk => ⟨hk.1, ⟨hk.2.1, hk.2.2.2⟩⟩)⟩, ⟨by repeat (first | (with_reducible first | exact HB.out | apply below_alloc | apply pw_below_drewN | apply below_drew1) | exact HB.out)⟩⟩
             case round =>
              clear H'
              try clear c1
              try clear p1
              try clear q1
              try clear hx1
              try clear c2
              try clear p2
              try clear q2
              try clear c3
              try clear q3
              try clear c4
              try clear c5
              try clear c6
              try clear p6
              try clear c7
              try clear p7
              try clear q7
              try clear hx7
              try clear hf7
              try clear c8
              try clear c9
              try clear c9b0
              try clear c9b1
              try clear c10
              try clear c10b0
              try clear c10b1
              try clear c11
              try clear c12
              try clear c12b0
              try clear c13
              try clear c13b0
              try clear c14
              try clear c17
              try clear p18
              try clear q18
              try clear hx18
              try clear c25
              try clear q29
              try clear q31
              try clear c36
              try clear c37
              try clear c39
              try clear c41
              try clear p64
              try clear c66
              try clear c68
              try clear c68b0
              try clear c69
              try clear c69b0
              try clear c70
              try clear c70b0
              try clear p71
              try clear q71
              try clear hx71
              try clear hf71
              try clear hx182_0
              try clear hx71_0
              try clear p182
              try clear p2
              try clear p71
              try clear q182
              try clear q2
              try clear q29
              try clear q3
              try clear q31
              try clear q71
              obtain ⟨x11_3, x88_3, rfl, HA, HK3, HO_7, HO_8, HO_10, HO_11, HB⟩ := hrel
              have hl11_3 := (Kd.R_reads' HO_11.out).1
              rw [hl11_3] at HO_11
              (try simp only [hl11_3])
              (try simp only [hl11_3] at HO_7)
              (try simp only [hl11_3] at HO_8)
              (try simp only [hl11_3] at HO_10)
              cases gk with
              | zero => exact absurd HA.out (by simp [furlonglaw03_StripKeeps.l1])
              | succ k3 =>
               have H := HA.out
               clear HA
               simp only [furlonglaw03_StripKeeps.l1] at H
               by_cases c75 : x88_3 < (t164.length : Int)
               ·rw [if_pos c75] at H
                have c75b0 : decide (x88_3 < (t164.length : Int)) = true := decide_eq_true c75
                clear c75
                by_cases c76 : 0 ≤ x88_3
                ·rw [if_pos c76] at H
                 have c76b0 : decide (0 ≤ x88_3) = true := decide_eq_true c76
                 clear c76
                 by_cases c77 : x88_3 < (x11_3.length : Int)
                 ·rw [if_pos c77] at H
                  have c77b0 : decide (x88_3 < (x11_3.length : Int)) = true := decide_eq_true c77
                  clear c77
                  obtain ⟨y185, hy185⟩ : ∃ y_ : List Int, y_ = (x11_3.set (x88_3 : Int).toNat (Go.bits .xor .u8 (rd x11_3 x88_3) 255)) := ⟨_, rfl⟩
                  replace H : (furlonglaw03_StripKeeps.l1 k3 l0 l1 y141 y147 t161 y185 (t164.length : Int) (wrap64 (x88_3 + 1))) = some r := by first | (rw [hy185]; with_reducible exact H) | (have H2_ := (Option.bind_some _ _).symm.trans H; rw [hy185]; with_reducible exact H2_) | (have H2_ := (Option.bind_some _ _).symm.trans H; with_reducible exact H2_) | with_reducible exact H | (rw [hy185]; exact H) | exact H
                  have Ny185 := Aside0.mk hy185
                  clear hy185
                  have H' := Aside0.mk H
                  clear H
                  have p184 : 0 ≤ (x88_3 : Int) := of_decide_eq_true (by first | (with_reducible assumption) | assumption)
                  have q184 : x88_3 < (x11_3.length : Int) := of_decide_eq_true (by first | (with_reducible assumption) | assumption)
                  obtain ⟨ad184, e184, hx184_0⟩ := Kd.at_int (Kd.R_reads' HO_11.out).2.2 x88_3 p184 q184
                  cases e184
                  replace p184 := eq_true p184
                  replace q184 := eq_true q184
                  have p78 : 0 ≤ (x88_3 : Int) := of_decide_eq_true (by first | (with_reducible assumption) | assumption)
                  have q78 : (x88_3 : Int) < ((x11_3.length : Int) : Int) := of_decide_eq_true (by first | (with_reducible assumption) | assumption)
                  obtain ⟨go78, co78, eo78, gb78, gl78, cl78, HG78⟩ := Kd.R_form HO_11.out (by omega)
                  (first | cases eo78 | (injection eo78 with ea_ en_ ec_; (first | subst ea_ | (injection ea_ with ea_; subst ea_)); subst ec_; clear en_))
                  have GB78 := Aside0.mk gb78
                  have GG78 := Aside0.mk HG78
                  clear gb78 gl78 HG78
                  (first | simp only [add_plain] at hx184_0 | skip)
                  obtain ⟨hx78_0, hf78_0⟩ := Kd.R_celln 0 HO_11.out (x88_3 : Int) p78 q78
                  replace p78 := eq_true p78
                  replace q78 := eq_true q78
                  have HP79 := Kd.R_putg HO_11.out (x88_3 : Int) (Go.bits .xor .u8 (rd x11_3 x88_3) 255)
                  go_wp2_with (first | ((with_reducible refine gate_store (t := 5) (p := 96) rfl ?_); refine store_event (t := 5) (p := 96) (v := ?vo_w80) (w1 := (wr.setCell ⟨go78, (x88_3 : Int).toNat, none⟩ (.int .u8 (Go.bits .xor .u8 (rd x11_3 x88_3) 255)))) ?hg ?ho ?hn ?hr ?_; (case ho => rfl); (case hg => rfl); (case hn => rfl); (case hr => first | (go_simp; done) | (go_simp; rfl)); intro w80 hw; have hg : wr.grownBy w80 (some go78) := (by rw [hw]; exact HP79.2); have hp_ : Kd.R (Kd.int .u8) 5 w80 w.heap.size (fun k_ => some k_ ≠ (.slice Ao30 y141.length co30 : Value).ownBlock ∧ some k_ ≠ (.slice Ao33 y147.length co33 : Value).ownBlock ∧ some k_ ≠ (v162 : Value).ownBlock) (.slice (some ⟨go78, 0, none⟩) x11_3.length co74) y185 := (by rw [hw, Ny185.out]; exact HP79.1); clear HP79; have n0_ := Aside0.mk (Kd.R_after (v := (.slice (some ⟨go78, 0, none⟩) x11_3.length co74)) (v1 := (.slice (some ⟨go78, 0, none⟩) x11_3.length co74)) (ok := (fun k_ => some k_ ≠ (.slice Ao33 y147.length co33 : Value).ownBlock ∧ some k_ ≠ (v162 : Value).ownBlock)) (by (with_reducible repeat (first | apply Kd.R_alloc | apply Kd.R_drewN | apply Kd.R_drew)); exact Kd.R_mono HO_7.out (fun _ hk => ⟨⟨hk.1, hk.2.1⟩, hk.2.2⟩)) hg (.inl rfl)); have n1_ := Aside0.mk (Kd.R_after (v := (.slice (some ⟨go78, 0, none⟩) x11_3.length co74)) (v1 := (.slice (some ⟨go78, 0, none⟩) x11_3.length co74)) (ok := (fun k_ => some k_ ≠ (.slice Ao30 y141.length co30 : Value).ownBlock ∧ some k_ ≠ (v162 : Value).ownBlock)) (by (with_reducible repeat (first | apply Kd.R_alloc | apply Kd.R_drewN | apply Kd.R_drew)); exact Kd.R_mono HO_8.out (fun _ hk => ⟨⟨hk.1, hk.2.1⟩, hk.2.2⟩)) hg (.inl rfl)); have n2_ := Aside0.mk (Kd.R_after (v := (.slice (some ⟨go78, 0, none⟩) x11_3.length co74)) (v1 := (.slice (some ⟨go78, 0, none⟩) x11_3.length co74)) (ok := (fun k_ => some k_ ≠ (.slice Ao30 y141.length co30 : Value).ownBlock ∧ some k_ ≠ (.slice Ao33 y147.length co33 : Value).ownBlock)) (by (with_reducible repeat (first | apply Kd.R_alloc | apply Kd.R_drewN | apply Kd.R_drew)); exact Kd.R_mono HO_10.out (fun _ hk => ⟨⟨hk.1, hk.2.1⟩, hk.2.2⟩)) hg (.inl rfl)); have n3_ := Aside0.mk (hp_); have n4_ := Aside0.mk ((by rw [hw]; exact below_set (HB.out) GB78.out : Below w.heap.size w w80)); clear HO_7; clear HO_8; clear HO_10; clear HO_11; clear HB; have HO_7 := n0_; have HO_8 := n1_; have HO_10 := n2_; have HO_11 := n3_; have HB := n4_; clear n0_ n1_ n2_ n3_ n4_; clear hg hw hp_))
                  (try simp only [← hl11_3])
                  go_roundg k3
                  case measure => have := HJ15.out; have := HK2.out; have := HK3.out; omega
                  case rel => exact ⟨(y185), (wrap64 (x88_3 + 1)), (by first | rfl | (simp; done) | (simp [*]; done)), H', ⟨by have := HJ15.out; have := HK2.out; have := HK3.out; omega⟩, ⟨by (try simp only [hl9_2]); (try simp only [hl11_3]); (with_reducible repeat (first | apply Kd.R_alloc | apply Kd.R_drewN | apply Kd.R_drew)); exact Kd.R_mono HO_7.out (fun _ hk => ⟨hk.1.1, ⟨hk.1.2, hk.2⟩⟩)⟩, ⟨by (try simp only [hl9_2]); (try simp only [hl11_3]); (with_reducible repeat (first | apply Kd.R_alloc | apply Kd.R_drewN | apply Kd.R_drew)); exact Kd.R_mono HO_8.out (fun _ hk => ⟨hk.1.1, ⟨hk.1.2, hk.2⟩⟩)⟩, ⟨by (try simp only [hl9_2]); (try simp only [hl11_3]); (with_reducible repeat (first | apply Kd.R_alloc | apply Kd.R_drewN | apply Kd.R_drew)); exact Kd.R_mono HO_10.out (fun _ hk => ⟨hk.1.1, ⟨hk.1.2, hk.2⟩⟩)⟩, ⟨by (try simp only [hl9_2]); (try simp only [hl11_3]); (with_reducible repeat (first | apply Kd.R_alloc | apply Kd.R_drewN | apply Kd.R_drew)); exact HO_11.out⟩, ⟨by repeat (first | (with_reducible first | exact HB.out | apply below_alloc | apply pw_below_drewN | apply below_drew1) | exact HB.out)⟩⟩
                 ·rw [if_neg c77] at H
                  exact absurd H (by simp)
                ·rw [if_neg c76] at H
                 exact absurd H (by simp)
               ·rw [if_neg c75] at H
                have c75b0 : decide (x88_3 < (t164.length : Int)) = false := decide_eq_false c75
                have c75d : decide (x88_3 < (x11_3.length : Int)) = false := by rw [← hl11_3]; exact c75b0
                clear c75
                have HC81 := Aside0.mk H
                clear H
                go_upto_region 19 with (fail)
                go_cut [124] (fun v124 wc => ∃ (kq : Nat) (x124_80 : Bool), v124 = .bool x124_80 ∧ Aside0 (furlonglaw03_StripKeeps.j3 kq l0 l1 y141 y147 t161 x124_80 = some r) ∧ Aside0 (kq ≤ k3) ∧ Aside0 (Kd.R (Kd.int .u8) 5 wc w.heap.size (fun k_ => some k_ ≠ ((.slice Ao33 y147.length co33) : Value).ownBlock ∧ some k_ ≠ (v162 : Value).ownBlock) (.slice Ao30 y141.length co30) y141) ∧ Aside0 (Kd.R (Kd.int .u8) 5 wc w.heap.size (fun k_ => some k_ ≠ ((.slice Ao30 y141.length co30) : Value).ownBlock ∧ some k_ ≠ (v162 : Value).ownBlock) (.slice Ao33 y147.length co33) y147) ∧ Aside0 (Kd.R (Kd.int .u8) 5 wc w.heap.size (fun k_ => some k_ ≠ ((.slice Ao30 y141.length co30) : Value).ownBlock ∧ some k_ ≠ ((.slice Ao33 y147.length co33) : Value).ownBlock) v162 t161) ∧ Aside0 (Below w.heap.size w wc))
                case first =>
                 have H := HC81.out
                 clear HC81
                 by_cases c82 : 0 ≤ (l0.length : Int)
                 ·rw [if_pos c82] at H
                  have c82b0 := eq_true c82
                  have c82b1 : decide (0 ≤ (l0.length : Int)) = true := decide_eq_true c82
                  clear c82
                  by_cases c83 : (l0.length : Int) ≤ (y141.length : Int)
                  ·rw [if_pos c83] at H
                   have c83b0 := eq_true c83
                   have c83b1 : decide ((l0.length : Int) ≤ (y141.length : Int)) = true := decide_eq_true c83
                   clear c83
                   have hy186 := Ny150.out
                   replace H : ((furlongref01_Bytes.f y150 l0).bind fun t190 => (if t190 = true then ((furlongref01_Bytes.f y147 l1).bind fun t191 => (if t191 = true then ((furlongref03_Text.f k3 l1).bind fun t192 => ((furlongref03_After.f l0 t192).bind fun t195 => ((furlongref01_Bytes.f t161 t195).bind fun t198 => (if t198 = true then (furlonglaw03_StripKeeps.j3 k3 l0 l1 y141 y147 t161 (decide ((l1.length : Int) > 60000))) else (furlonglaw03_StripKeeps.j3 k3 l0 l1 y141 y147 t161 true))))) else (furlonglaw03_StripKeeps.j3 k3 l0 l1 y141 y147 t161 true))) else (furlonglaw03_StripKeeps.j3 k3 l0 l1 y141 y147 t161 true))) = some r := by first | (rw [hy186]; with_reducible exact H) | (have H2_ := (Option.bind_some _ _).symm.trans H; rw [hy186]; with_reducible exact H2_) | (have H2_ := (Option.bind_some _ _).symm.trans H; with_reducible exact H2_) | with_reducible exact H | (rw [hy186]; exact H) | exact H
                   have Ny186 := Aside0.mk hy186
                   clear hy186
                   replace H := Option.bind_eq_some_iff.mp H
                   obtain ⟨t190, A840, H⟩ := H
                   replace H : (if t190 = true then ((furlongref01_Bytes.f y147 l1).bind fun t191 => (if t191 = true then ((furlongref03_Text.f k3 l1).bind fun t192 => ((furlongref03_After.f l0 t192).bind fun t195 => ((furlongref01_Bytes.f t161 t195).bind fun t198 => (if t198 = true then (furlonglaw03_StripKeeps.j3 k3 l0 l1 y141 y147 t161 (decide ((l1.length : Int) > 60000))) else (furlonglaw03_StripKeeps.j3 k3 l0 l1 y141 y147 t161 true))))) else (furlonglaw03_StripKeeps.j3 k3 l0 l1 y141 y147 t161 true))) else (furlonglaw03_StripKeeps.j3 k3 l0 l1 y141 y147 t161 true)) = some r := H
                   have A84 := Aside0.mk A840
                   clear A840
                   by_cases c85 : t190 = true
                   ·subst c85
                    have H1 : ((furlongref01_Bytes.f y147 l1).bind fun t191 => (if t191 = true then ((furlongref03_Text.f k3 l1).bind fun t192 => ((furlongref03_After.f l0 t192).bind fun t195 => ((furlongref01_Bytes.f t161 t195).bind fun t198 => (if t198 = true then (furlonglaw03_StripKeeps.j3 k3 l0 l1 y141 y147 t161 (decide ((l1.length : Int) > 60000))) else (furlonglaw03_StripKeeps.j3 k3 l0 l1 y141 y147 t161 true))))) else (furlonglaw03_StripKeeps.j3 k3 l0 l1 y141 y147 t161 true))) = some r := by rw [if_pos rfl] at H; exact H
                    clear H
                    have H := H1
                    clear H1
                    replace H := Option.bind_eq_some_iff.mp H
                    obtain ⟨t191, A860, H⟩ := H
                    replace H : (if t191 = true then ((furlongref03_Text.f k3 l1).bind fun t192 => ((furlongref03_After.f l0 t192).bind fun t195 => ((furlongref01_Bytes.f t161 t195).bind fun t198 => (if t198 = true then (furlonglaw03_StripKeeps.j3 k3 l0 l1 y141 y147 t161 (decide ((l1.length : Int) > 60000))) else (furlonglaw03_StripKeeps.j3 k3 l0 l1 y141 y147 t161 true))))) else (furlonglaw03_StripKeeps.j3 k3 l0 l1 y141 y147 t161 true)) = some r := H
                    have A86 := Aside0.mk A860
                    clear A860
                    by_cases c87 : t191 = true
                    ·subst c87
                     have H1 : ((furlongref03_Text.f k3 l1).bind fun t192 => ((furlongref03_After.f l0 t192).bind fun t195 => ((furlongref01_Bytes.f t161 t195).bind fun t198 => (if t198 = true then (furlonglaw03_StripKeeps.j3 k3 l0 l1 y141 y147 t161 (decide ((l1.length : Int) > 60000))) else (furlonglaw03_StripKeeps.j3 k3 l0 l1 y141 y147 t161 true))))) = some r := by rw [if_pos rfl] at H; exact H
                     clear H
                     have H := H1
                     clear H1
                     replace H := Option.bind_eq_some_iff.mp H
                     obtain ⟨t192, A880, H⟩ := H
                     replace H : ((furlongref03_After.f l0 t192).bind fun t195 => ((furlongref01_Bytes.f t161 t195).bind fun t198 => (if t198 = true then (furlonglaw03_StripKeeps.j3 k3 l0 l1 y141 y147 t161 (decide ((l1.length : Int) > 60000))) else (furlonglaw03_StripKeeps.j3 k3 l0 l1 y141 y147 t161 true)))) = some r := H
                     have A88 := Aside0.mk A880
                     clear A880
                     replace H := Option.bind_eq_some_iff.mp H
                     obtain ⟨t195, A890, H⟩ := H
                     replace H : ((furlongref01_Bytes.f t161 t195).bind fun t198 => (if t198 = true then (furlonglaw03_StripKeeps.j3 k3 l0 l1 y141 y147 t161 (decide ((l1.length : Int) > 60000))) else (furlonglaw03_StripKeeps.j3 k3 l0 l1 y141 y147 t161 true))) = some r := H
                     have A89 := Aside0.mk A890
                     clear A890
                     replace H := Option.bind_eq_some_iff.mp H
                     obtain ⟨t198, A900, H⟩ := H
                     replace H : (if t198 = true then (furlonglaw03_StripKeeps.j3 k3 l0 l1 y141 y147 t161 (decide ((l1.length : Int) > 60000))) else (furlonglaw03_StripKeeps.j3 k3 l0 l1 y141 y147 t161 true)) = some r := H
                     have A90 := Aside0.mk A900
                     clear A900
                     by_cases c91 : t198 = true
                     ·subst c91
                      have H1 : (furlonglaw03_StripKeeps.j3 k3 l0 l1 y141 y147 t161 (decide ((l1.length : Int) > 60000))) = some r := by rw [if_pos rfl] at H; exact H
                      clear H
                      have H := H1
                      clear H1
                      have H' := Aside0.mk H
                      clear H
                      have q92 : ((l0.length : Int) : Int) ≤ ((y141.length : Int) : Int) := of_decide_eq_true (by first | (with_reducible assumption) | assumption)
                      obtain ⟨i092, hi092, _, hsz92, _⟩ := info_parts info5
                      have hroom92 : y141.length ≤ co30 := (Kd.R_reads' HO_7.out).2.1
                      have hC92 : Kd.C (Kd.int .u8) _ Ao30 y141.length y141 := (Kd.R_reads' HO_7.out).2.2
                      have hcut92 := cut_to (P := Try.prog) 22 5 .i64 Try.underlying22 hi092 Ao30 y141.length co30 (l0.length : Int) (of_decide_eq_true (by first | (with_reducible assumption) | assumption)) q92 hroom92
                      have hr92 := Kd.C_take (m := ((l0.length : Int) : Int).toNat) hC92 (by omega)
                      have hy92 : y150.length = ((l0.length : Int) : Int).toNat := (by rw [Ny186.out, List.length_take]; omega)
                      rw [← Ny186.out] at hr92
                      rw [← hy92] at hcut92
                      have HR189 := Aside0.mk hr92
                      have HC189 := Aside0.mk (show y150.length ≤ co30 from by omega)
                      clear hr92 hC92 hroom92 hi092 hsz92
                      have KY92 := Aside0.mk hy92
                      clear hy92
                      have KL92 := Aside0.mk (show ((l0.length : Int) : Int).toNat ≤ y141.length from by omega)
                      replace q92 := eq_true q92
                      go_wp2_with (first | ((with_reducible refine gate_callee (f := 14) rfl ?_); refine goesL_ (some 103) rfl rfl Try.func14 (by kernel_rfl) rfl #[.slice Ao30 y150.length co30, .slice A0 l0.length c0] rfl (by (try simp only [List.map_toArray, List.map_cons, List.map_nil]); first | done | rfl | (simp only [List.length_drop, List.length_take]; rfl)) ?_; (with_reducible refine (furlongref01_Bytes.calls _ _ y150 _ _ l0 true _ ?side1 ?side2 ?side3 ?side4 A84.out).mono ?_); (case side1 => repeat (first | exact (by repeat (first | (with_reducible exact HR189.out) | (with_reducible refine Kd.C_alloc ?_ _) | (with_reducible refine Kd.C_drewN ?_ _) | (with_reducible refine Kd.C_drew ?_) | exact HR189.out)) | (with_reducible refine Kd.C_alloc ?_ _) | (with_reducible refine Kd.C_drewN ?_ _) | (with_reducible refine Kd.C_drew ?_))); (case side2 => exact HC189.out); (case side3 => repeat (first | exact (Kd.C_below HR0.out HB.out) | (with_reducible refine Kd.C_alloc ?_ _) | (with_reducible refine Kd.C_drewN ?_ _) | (with_reducible refine Kd.C_drew ?_))); (case side4 => exact HC0.out); rintro e w' ⟨rfl, ⟨nd, rfl⟩⟩; refine ⟨_, rfl, ?_⟩) | (go_at_call 14; (with_reducible refine (furlongref01_Bytes.calls _ _ y147 _ _ l1 true _ ?side1 ?side2 ?side3 ?side4 A86.out).mono ?_); (case side1 => repeat (first | exact (Kd.R_reads' HO_8.out).2.2 | (with_reducible refine Kd.C_alloc ?_ _) | (with_reducible refine Kd.C_drewN ?_ _) | (with_reducible refine Kd.C_drew ?_))); (case side2 => exact (Kd.R_reads' HO_8.out).2.1); (case side3 => repeat (first | exact (Kd.C_below HR1.out (by repeat (first | (with_reducible first | exact HB.out | apply below_alloc | apply pw_below_drewN | apply below_drew1) | exact HB.out))) | (with_reducible refine Kd.C_alloc ?_ _) | (with_reducible refine Kd.C_drewN ?_ _) | (with_reducible refine Kd.C_drew ?_))); (case side4 => exact HC1.out); rintro e w' ⟨rfl, ⟨nd, rfl⟩⟩) | (go_at_call 26; (with_reducible refine (furlongref03_Text.calls k3 _ _ l1 t192 _ ?side1 ?side2 A88.out).mono ?_); (case side1 => repeat (first | exact (Kd.C_below HR1.out (by repeat (first | (with_reducible first | exact HB.out | apply below_alloc | apply pw_below_drewN | apply below_drew1) | exact HB.out))) | (with_reducible refine Kd.C_alloc ?_ _) | (with_reducible refine Kd.C_drewN ?_ _) | (with_reducible refine Kd.C_drew ?_))); (case side2 => exact HC1.out); rintro e w93 ⟨v193, rfl, ho0, hb⟩; have n0_ := Aside0.mk (Kd.R_elder' (by (with_reducible repeat (first | apply Kd.R_alloc | apply Kd.R_drewN | apply Kd.R_drew)); exact HO_7.out) (Kd.R_base ho0) hb); have n1_ := Aside0.mk (Kd.R_elder' (by (with_reducible repeat (first | apply Kd.R_alloc | apply Kd.R_drewN | apply Kd.R_drew)); exact HO_8.out) (Kd.R_base ho0) hb); have n2_ := Aside0.mk (Kd.R_elder' (by (with_reducible repeat (first | apply Kd.R_alloc | apply Kd.R_drewN | apply Kd.R_drew)); exact HO_10.out) (Kd.R_base ho0) hb); have n3_ := Aside0.mk (Kd.R_elder' (by (with_reducible repeat (first | apply Kd.R_alloc | apply Kd.R_drewN | apply Kd.R_drew)); exact HO_11.out) (Kd.R_base ho0) hb); have n4_ := Aside0.mk (Kd.R_lower (Kd.R_new' (Kd.R_new' (Kd.R_new' (Kd.R_new' ho0 (Kd.R_lt (by (with_reducible repeat (first | apply Kd.R_alloc | apply Kd.R_drewN | apply Kd.R_drew)); exact HO_7.out))) (Kd.R_lt (by (with_reducible repeat (first | apply Kd.R_alloc | apply Kd.R_drewN | apply Kd.R_drew)); exact HO_8.out))) (Kd.R_lt (by (with_reducible repeat (first | apply Kd.R_alloc | apply Kd.R_drewN | apply Kd.R_drew)); exact HO_10.out))) (Kd.R_lt (by (with_reducible repeat (first | apply Kd.R_alloc | apply Kd.R_drewN | apply Kd.R_drew)); exact HO_11.out))) (below_size (by repeat (first | (with_reducible first | exact HB.out | apply below_alloc | apply pw_below_drewN | apply below_drew1) | exact HB.out)))); have n5_ : True := trivial; have n6_ := Aside0.mk (below_step (by repeat (first | (with_reducible first | exact HB.out | apply below_alloc | apply pw_below_drewN | apply below_drew1) | exact HB.out)) hb); clear HO_7; clear HO_8; clear HO_10; clear HO_11; clear HR189; clear HB; have HO_7 := n0_; have HO_8 := n1_; have HO_10 := n2_; have HO_11 := n3_; have HO194 := n4_; have HR189 := n5_; have HB := n6_; clear n0_ n1_ n2_ n3_ n4_ n5_ n6_; (try clear hb); (try clear hb2); (try clear hk); (try clear hi); (try clear ho0); obtain ⟨Ao94, co94, eo94⟩ := Kd.R_slice HO194.out; subst eo94) | (go_at_call 21; (with_reducible refine (furlongref03_After.calls _ _ l0 _ _ t192 t195 _ ?side1 ?side2 ?side3 ?side4 A89.out).mono ?_); (case side1 => repeat (first | exact (Kd.C_below HR0.out HB.out) | (with_reducible refine Kd.C_alloc ?_ _) | (with_reducible refine Kd.C_drewN ?_ _) | (with_reducible refine Kd.C_drew ?_))); (case side2 => exact HC0.out); (case side3 => repeat (first | exact (Kd.R_reads' HO194.out).2.2 | (with_reducible refine Kd.C_alloc ?_ _) | (with_reducible refine Kd.C_drewN ?_ _) | (with_reducible refine Kd.C_drew ?_))); (case side4 => exact (Kd.R_reads' HO194.out).2.1); rintro e w95 ⟨v196, rfl, ho0, hb⟩; have n0_ := Aside0.mk (Kd.R_elder' (by (with_reducible repeat (first | apply Kd.R_alloc | apply Kd.R_drewN | apply Kd.R_drew)); exact HO_7.out) (Kd.R_base ho0) hb); have n1_ := Aside0.mk (Kd.R_elder' (by (with_reducible repeat (first | apply Kd.R_alloc | apply Kd.R_drewN | apply Kd.R_drew)); exact HO_8.out) (Kd.R_base ho0) hb); have n2_ := Aside0.mk (Kd.R_elder' (by (with_reducible repeat (first | apply Kd.R_alloc | apply Kd.R_drewN | apply Kd.R_drew)); exact HO_10.out) (Kd.R_base ho0) hb); have n3_ := Aside0.mk (Kd.R_elder' (by (with_reducible repeat (first | apply Kd.R_alloc | apply Kd.R_drewN | apply Kd.R_drew)); exact HO_11.out) (Kd.R_base ho0) hb); have n4_ := Aside0.mk (Kd.R_elder' (by (with_reducible repeat (first | apply Kd.R_alloc | apply Kd.R_drewN | apply Kd.R_drew)); exact HO194.out) (Kd.R_base ho0) hb); have n5_ := Aside0.mk (Kd.R_lower (Kd.R_new' (Kd.R_new' (Kd.R_new' (Kd.R_new' (Kd.R_new' ho0 (Kd.R_lt (by (with_reducible repeat (first | apply Kd.R_alloc | apply Kd.R_drewN | apply Kd.R_drew)); exact HO_7.out))) (Kd.R_lt (by (with_reducible repeat (first | apply Kd.R_alloc | apply Kd.R_drewN | apply Kd.R_drew)); exact HO_8.out))) (Kd.R_lt (by (with_reducible repeat (first | apply Kd.R_alloc | apply Kd.R_drewN | apply Kd.R_drew)); exact HO_10.out))) (Kd.R_lt (by (with_reducible repeat (first | apply Kd.R_alloc | apply Kd.R_drewN | apply Kd.R_drew)); exact HO_11.out))) (Kd.R_lt (by (with_reducible repeat (first | apply Kd.R_alloc | apply Kd.R_drewN | apply Kd.R_drew)); exact HO194.out))) (below_size (by repeat (first | (with_reducible first | exact HB.out | apply below_alloc | apply pw_below_drewN | apply below_drew1) | exact HB.out)))); have n6_ : True := trivial; have n7_ := Aside0.mk (below_step (by repeat (first | (with_reducible first | exact HB.out | apply below_alloc | apply pw_below_drewN | apply below_drew1) | exact HB.out)) hb); clear HO_7; clear HO_8; clear HO_10; clear HO_11; clear HO194; clear HR189; clear HB; have HO_7 := n0_; have HO_8 := n1_; have HO_10 := n2_; have HO_11 := n3_; have HO194 := n4_; have HO197 := n5_; have HR189 := n6_; have HB := n7_; clear n0_ n1_ n2_ n3_ n4_ n5_ n6_ n7_; (try clear hb); (try clear hb2); (try clear hk); (try clear hi); (try clear ho0); obtain ⟨Ao96, co96, eo96⟩ := Kd.R_slice HO_10.out; subst eo96; obtain ⟨Ao97, co97, eo97⟩ := Kd.R_slice HO197.out; subst eo97) | (go_at_call 14; (with_reducible refine (furlongref01_Bytes.calls _ _ t161 _ _ t195 true _ ?side1 ?side2 ?side3 ?side4 A90.out).mono ?_); (case side1 => repeat (first | exact (Kd.R_reads' HO_10.out).2.2 | (with_reducible refine Kd.C_alloc ?_ _) | (with_reducible refine Kd.C_drewN ?_ _) | (with_reducible refine Kd.C_drew ?_))); (case side2 => exact (Kd.R_reads' HO_10.out).2.1); (case side3 => repeat (first | exact (Kd.R_reads' HO197.out).2.2 | (with_reducible refine Kd.C_alloc ?_ _) | (with_reducible refine Kd.C_drewN ?_ _) | (with_reducible refine Kd.C_drew ?_))); (case side4 => exact (Kd.R_reads' HO197.out).2.1); rintro e w' ⟨rfl, ⟨nd, rfl⟩⟩))
                      go_meet
                      case rel => exact ⟨_, (decide ((l1.length : Int) > 60000)), (by first | rfl | (simp; done) | (simp [*]; done)), H', ⟨by have := HJ15.out; have := HK2.out; have := HK3.out; first | omega | exact Nat.le_refl _⟩, ⟨by (try simp only [hl9_2]); (try simp only [hl11_3]); (with_reducible repeat (first | apply Kd.R_alloc | apply Kd.R_drewN | apply Kd.R_drew)); exact Kd.R_mono HO_7.out (fun _ hk => ⟨hk.1.1.1, hk.1.1.2.1⟩)⟩, ⟨by (try simp only [hl9_2]); (try simp only [hl11_3]); (with_reducible repeat (first | apply Kd.R_alloc | apply Kd.R_drewN | apply Kd.R_drew)); exact Kd.R_mono HO_8.out (fun _ hk => ⟨hk.1.1.1, hk.1.1.2.1⟩)⟩, ⟨by (try simp only [hl9_2]); (try simp only [hl11_3]); (with_reducible repeat (first | apply Kd.R_alloc | apply Kd.R_drewN | apply Kd.R_drew)); exact Kd.R_mono HO_10.out (fun _ hk => ⟨hk.1.1.1, hk.1.1.2.1⟩)⟩, ⟨by repeat (first | (with_reducible first | exact HB.out | apply below_alloc | apply pw_below_drewN | apply below_drew1) | exact HB.out)⟩⟩
                     ·replace c91 := Bool.eq_false_iff.mpr c91
                      subst c91
                      have H1 : (furlonglaw03_StripKeeps.j3 k3 l0 l1 y141 y147 t161 true) = some r := by rw [if_neg (show ¬ (false = true) by decide)] at H; exact H
                      clear H
                      have H := H1
                      clear H1
                      have H' := Aside0.mk H
                      clear H
                      have q98 : ((l0.length : Int) : Int) ≤ ((y141.length : Int) : Int) := of_decide_eq_true (by first | (with_reducible assumption) | assumption)
                      obtain ⟨i098, hi098, _, hsz98, _⟩ := info_parts info5
                      have hroom98 : y141.length ≤ co30 := (Kd.R_reads' HO_7.out).2.1
                      have hC98 : Kd.C (Kd.int .u8) _ Ao30 y141.length y141 := (Kd.R_reads' HO_7.out).2.2
                      have hcut98 := cut_to (P := Try.prog) 22 5 .i64 Try.underlying22 hi098 Ao30 y141.length co30 (l0.length : Int) (of_decide_eq_true (by first | (with_reducible assumption) | assumption)) q98 hroom98
                      have hr98 := Kd.C_take (m := ((l0.length : Int) : Int).toNat) hC98 (by omega)
                      have hy98 : y150.length = ((l0.length : Int) : Int).toNat := (by rw [Ny186.out, List.length_take]; omega)
                      rw [← Ny186.out] at hr98
                      rw [← hy98] at hcut98
                      have HR189 := Aside0.mk hr98
                      have HC189 := Aside0.mk (show y150.length ≤ co30 from by omega)
                      clear hr98 hC98 hroom98 hi098 hsz98
                      have KY98 := Aside0.mk hy98
                      clear hy98
                      have KL98 := Aside0.mk (show ((l0.length : Int) : Int).toNat ≤ y141.length from by omega)
                      replace q98 := eq_true q98
                      go_wp2_with (first | ((with_reducible refine gate_callee (f := 14) rfl ?_); refine goesL_ (some 103) rfl rfl Try.func14 (by kernel_rfl) rfl #[.slice Ao30 y150.length co30, .slice A0 l0.length c0] rfl (by (try simp only [List.map_toArray, List.map_cons, List.map_nil]); first | done | rfl | (simp only [List.length_drop, List.length_take]; rfl)) ?_; (with_reducible refine (furlongref01_Bytes.calls _ _ y150 _ _ l0 true _ ?side1 ?side2 ?side3 ?side4 A84.out).mono ?_); (case side1 => repeat (first | exact (by repeat (first | (with_reducible exact HR189.out) | (with_reducible refine Kd.C_alloc ?_ _) | (with_reducible refine Kd.C_drewN ?_ _) | (with_reducible refine Kd.C_drew ?_) | exact HR189.out)) | (with_reducible refine Kd.C_alloc ?_ _) | (with_reducible refine Kd.C_drewN ?_ _) | (with_reducible refine Kd.C_drew ?_))); (case side2 => exact HC189.out); (case side3 => repeat (first | exact (Kd.C_below HR0.out HB.out) | (with_reducible refine Kd.C_alloc ?_ _) | (with_reducible refine Kd.C_drewN ?_ _) | (with_reducible refine Kd.C_drew ?_))); (case side4 => exact HC0.out); rintro e w' ⟨rfl, ⟨nd, rfl⟩⟩; refine ⟨_, rfl, ?_⟩) | (go_at_call 14; (with_reducible refine (furlongref01_Bytes.calls _ _ y147 _ _ l1 true _ ?side1 ?side2 ?side3 ?side4 A86.out).mono ?_); (case side1 => repeat (first | exact (Kd.R_reads' HO_8.out).2.2 | (with_reducible refine Kd.C_alloc ?_ _) | (with_reducible refine Kd.C_drewN ?_ _) | (with_reducible refine Kd.C_drew ?_))); (case side2 => exact (Kd.R_reads' HO_8.out).2.1); (case side3 => repeat (first | exact (Kd.C_below HR1.out (by repeat (first | (with_reducible first | exact HB.out | apply below_alloc | apply pw_below_drewN | apply below_drew1) | exact HB.out))) | (with_reducible refine Kd.C_alloc ?_ _) | (with_reducible refine Kd.C_drewN ?_ _) | (with_reducible refine Kd.C_drew ?_))); (case side4 => exact HC1.out); rintro e w' ⟨rfl, ⟨nd, rfl⟩⟩) | (go_at_call 26; (with_reducible refine (furlongref03_Text.calls k3 _ _ l1 t192 _ ?side1 ?side2 A88.out).mono ?_); (case side1 => repeat (first | exact (Kd.C_below HR1.out (by repeat (first | (with_reducible first | exact HB.out | apply below_alloc | apply pw_below_drewN | apply below_drew1) | exact HB.out))) | (with_reducible refine Kd.C_alloc ?_ _) | (with_reducible refine Kd.C_drewN ?_ _) | (with_reducible refine Kd.C_drew ?_))); (case side2 => exact HC1.out); rintro e w99 ⟨v193, rfl, ho0, hb⟩; have n0_ := Aside0.mk (Kd.R_elder' (by (with_reducible repeat (first | apply Kd.R_alloc | apply Kd.R_drewN | apply Kd.R_drew)); exact HO_7.out) (Kd.R_base ho0) hb); have n1_ := Aside0.mk (Kd.R_elder' (by (with_reducible repeat (first | apply Kd.R_alloc | apply Kd.R_drewN | apply Kd.R_drew)); exact HO_8.out) (Kd.R_base ho0) hb); have n2_ := Aside0.mk (Kd.R_elder' (by (with_reducible repeat (first | apply Kd.R_alloc | apply Kd.R_drewN | apply Kd.R_drew)); exact HO_10.out) (Kd.R_base ho0) hb); have n3_ := Aside0.mk (Kd.R_elder' (by (with_reducible repeat (first | apply Kd.R_alloc | apply Kd.R_drewN | apply Kd.R_drew)); exact HO_11.out) (Kd.R_base ho0) hb); have n4_ := Aside0.mk (Kd.R_lower (Kd.R_new' (Kd.R_new' (Kd.R_new' (Kd.R_new' ho0 (Kd.R_lt (by (with_reducible repeat (first | apply Kd.R_alloc | apply Kd.R_drewN | apply Kd.R_drew)); exact HO_7.out))) (Kd.R_lt (by (with_reducible repeat (first | apply Kd.R_alloc | apply Kd.R_drewN | apply Kd.R_drew)); exact HO_8.out))) (Kd.R_lt (by (with_reducible repeat (first | apply Kd.R_alloc | apply Kd.R_drewN | apply Kd.R_drew)); exact HO_10.out))) (Kd.R_lt (by (with_reducible repeat (first | apply Kd.R_alloc | apply Kd.R_drewN | apply Kd.R_drew)); exact HO_11.out))) (below_size (by repeat (first | (with_reducible first | exact HB.out | apply below_alloc | apply pw_below_drewN | apply below_drew1) | exact HB.out)))); have n5_ : True := trivial; have n6_ := Aside0.mk (below_step (by repeat (first | (with_reducible first | exact HB.out | apply below_alloc | apply pw_below_drewN | apply below_drew1) | exact HB.out)) hb); clear HO_7; clear HO_8; clear HO_10; clear HO_11; clear HR189; clear HB; have HO_7 := n0_; have HO_8 := n1_; have HO_10 := n2_; have HO_11 := n3_; have HO194 := n4_; have HR189 := n5_; have HB := n6_; clear n0_ n1_ n2_ n3_ n4_ n5_ n6_; (try clear hb); (try clear hb2); (try clear hk); (try clear hi); (try clear ho0); obtain ⟨Ao100, co100, eo100⟩ := Kd.R_slice HO194.out; subst eo100) | (go_at_call 21; (with_reducible refine (furlongref03_After.calls _ _ l0 _ _ t192 t195 _ ?side1 ?side2 ?side3 ?side4 A89.out).mono ?_); (case side1 => repeat (first | exact (Kd.C_below HR0.out HB.out) | (with_reducible refine Kd.C_alloc ?_ _) | (with_reducible refine Kd.C_drewN ?_ _) | (with_reducible refine Kd.C_drew ?_))); (case side2 => exact HC0.out); (case side3 => repeat (first | exact (Kd.R_reads' HO194.out).2.2 | (with_reducible refine Kd.C_alloc ?_ _) | (with_reducible refine Kd.C_drewN ?_ _) | (with_reducible refine Kd.C_drew ?_))); (case side4 => exact (Kd.R_reads' HO194.out).2.1); rintro e w101 ⟨v196, rfl, ho0, hb⟩; have n0_ := Aside0.mk (Kd.R_elder' (by (with_reducible repeat (first | apply Kd.R_alloc | apply Kd.R_drewN | apply Kd.R_drew)); exact HO_7.out) (Kd.R_base ho0) hb); have n1_ := Aside0.mk (Kd.R_elder' (by (with_reducible repeat (first | apply Kd.R_alloc | apply Kd.R_drewN | apply Kd.R_drew)); exact HO_8.out) (Kd.R_base ho0) hb); have n2_ := Aside0.mk (Kd.R_elder' (by (with_reducible repeat (first | apply Kd.R_alloc | apply Kd.R_drewN | apply Kd.R_drew)); exact HO_10.out) (Kd.R_base ho0) hb); have n3_ := Aside0.mk (Kd.R_elder' (by (with_reducible repeat (first | apply Kd.R_alloc | apply Kd.R_drewN | apply Kd.R_drew)); exact HO_11.out) (Kd.R_base ho0) hb); have n4_ := Aside0.mk (Kd.R_elder' (by (with_reducible repeat (first | apply Kd.R_alloc | apply Kd.R_drewN | apply Kd.R_drew)); exact HO194.out) (Kd.R_base ho0) hb); have n5_ := Aside0.mk (Kd.R_lower (Kd.R_new' (Kd.R_new' (Kd.R_new' (Kd.R_new' (Kd.R_new' ho0 (Kd.R_lt (by (with_reducible repeat (first | apply Kd.R_alloc | apply Kd.R_drewN | apply Kd.R_drew)); exact HO_7.out))) (Kd.R_lt (by (with_reducible repeat (first | apply Kd.R_alloc | apply Kd.R_drewN | apply Kd.R_drew)); exact HO_8.out))) (Kd.R_lt (by (with_reducible repeat (first | apply Kd.R_alloc | apply Kd.R_drewN | apply Kd.R_drew)); exact HO_10.out))) (Kd.R_lt (by (with_reducible repeat (first | apply Kd.R_alloc | apply Kd.R_drewN | apply Kd.R_drew)); exact HO_11.out))) (Kd.R_lt (by (with_reducible repeat (first | apply Kd.R_alloc | apply Kd.R_drewN | apply Kd.R_drew)); exact HO194.out))) (below_size (by repeat (first | (with_reducible first | exact HB.out | apply below_alloc | apply pw_below_drewN | apply below_drew1) | exact HB.out)))); have n6_ : True := trivial; have n7_ := Aside0.mk (below_step (by repeat (first | (with_reducible first | exact HB.out | apply below_alloc | apply pw_below_drewN | apply below_drew1) | exact HB.out)) hb); clear HO_7; clear HO_8; clear HO_10; clear HO_11; clear HO194; clear HR189; clear HB; have HO_7 := n0_; have HO_8 := n1_; have HO_10 := n2_; have HO_11 := n3_; have HO194 := n4_; have HO197 := n5_; have HR189 := n6_; have HB := n7_; clear n0_ n1_ n2_ n3_ n4_ n5_ n6_ n7_; (try clear hb); (try clear hb2); (try clear hk); (try clear hi); (try clear ho0); obtain ⟨Ao102, co102, eo102⟩ := Kd.R_slice HO_10.out; subst eo102; obtain ⟨Ao103, co103, eo103⟩ := Kd.R_slice HO197.out; subst eo103) | (go_at_call 14; (with_reducible refine (furlongref01_Bytes.calls _ _ t161 _ _ t195 false _ ?side1 ?side2 ?side3 ?side4 A90.out).mono ?_); (case side1 => repeat (first | exact (Kd.R_reads' HO_10.out).2.2 | (with_reducible refine Kd.C_alloc ?_ _) | (with_reducible refine Kd.C_drewN ?_ _) | (with_reducible refine Kd.C_drew ?_))); (case side2 => exact (Kd.R_reads' HO_10.out).2.1); (case side3 => repeat (first | exact (Kd.R_reads' HO197.out).2.2 | (with_reducible refine Kd.C_alloc ?_ _) | (with_reducible refine Kd.C_drewN ?_ _) | (with_reducible refine Kd.C_drew ?_))); (case side4 => exact (Kd.R_reads' HO197.out).2.1); rintro e w' ⟨rfl, ⟨nd, rfl⟩⟩))
                      go_meet
                      case rel => exact ⟨_, (true), (by first | rfl | (simp; done) | (simp [*]; done)), H', ⟨by have := HJ15.out; have := HK2.out; have := HK3.out; first | omega | exact Nat.le_refl _⟩, ⟨by (try simp only [hl9_2]); (try simp only [hl11_3]); (with_reducible repeat (first | apply Kd.R_alloc | apply Kd.R_drewN | apply Kd.R_drew)); exact Kd.R_mono HO_7.out (fun _ hk => ⟨hk.1.1.1, hk.1.1.2.1⟩)⟩, ⟨by (try simp only [hl9_2]); (try simp only [hl11_3]); (with_reducible repeat (first | apply Kd.R_alloc | apply Kd.R_drewN | apply Kd.R_drew)); exact Kd.R_mono HO_8.out (fun _ hk => ⟨hk.1.1.1, hk.1.1.2.1⟩)⟩, ⟨by (try simp only [hl9_2]); (try simp only [hl11_3]); (with_reducible repeat (first | apply Kd.R_alloc | apply Kd.R_drewN | apply Kd.R_drew)); exact Kd.R_mono HO_10.out (fun _ hk => ⟨hk.1.1.1, hk.1.1.2.1⟩)⟩, ⟨by repeat (first | (with_reducible first | exact HB.out | apply below_alloc | apply pw_below_drewN | apply below_drew1) | exact HB.out)⟩⟩
                    ·replace c87 := Bool.eq_false_iff.mpr c87
                     subst c87
                     have H1 : (furlonglaw03_StripKeeps.j3 k3 l0 l1 y141 y147 t161 true) = some r := by rw [if_neg (show ¬ (false = true) by decide)] at H; exact H
                     clear H
                     have H := H1
                     clear H1
                     have H' := Aside0.mk H
                     clear H
                     have q104 : ((l0.length : Int) : Int) ≤ ((y141.length : Int) : Int) := of_decide_eq_true (by first | (with_reducible assumption) | assumption)
                     obtain ⟨i0104, hi0104, _, hsz104, _⟩ := info_parts info5
                     have hroom104 : y141.length ≤ co30 := (Kd.R_reads' HO_7.out).2.1
                     have hC104 : Kd.C (Kd.int .u8) _ Ao30 y141.length y141 := (Kd.R_reads' HO_7.out).2.2
                     have hcut104 := cut_to (P := Try.prog) 22 5 .i64 Try.underlying22 hi0104 Ao30 y141.length co30 (l0.length : Int) (of_decide_eq_true (by first | (with_reducible assumption) | assumption)) q104 hroom104
                     have hr104 := Kd.C_take (m := ((l0.length : Int) : Int).toNat) hC104 (by omega)
                     have hy104 : y150.length = ((l0.length : Int) : Int).toNat := (by rw [Ny186.out, List.length_take]; omega)
                     rw [← Ny186.out] at hr104
                     rw [← hy104] at hcut104
                     have HR189 := Aside0.mk hr104
                     have HC189 := Aside0.mk (show y150.length ≤ co30 from by omega)
                     clear hr104 hC104 hroom104 hi0104 hsz104
                     have KY104 := Aside0.mk hy104
                     clear hy104
                     have KL104 := Aside0.mk (show ((l0.length : Int) : Int).toNat ≤ y141.length from by omega)
                     replace q104 := eq_true q104
                     go_wp2_with (first | ((with_reducible refine gate_callee (f := 14) rfl ?_); refine goesL_ (some 103) rfl rfl Try.func14 (by kernel_rfl) rfl #[.slice Ao30 y150.length co30, .slice A0 l0.length c0] rfl (by (try simp only [List.map_toArray, List.map_cons, List.map_nil]); first | done | rfl | (simp only [List.length_drop, List.length_take]; rfl)) ?_; (with_reducible refine (furlongref01_Bytes.calls _ _ y150 _ _ l0 true _ ?side1 ?side2 ?side3 ?side4 A84.out).mono ?_); (case side1 => repeat (first | exact (by repeat (first | (with_reducible exact HR189.out) | (with_reducible refine Kd.C_alloc ?_ _) | (with_reducible refine Kd.C_drewN ?_ _) | (with_reducible refine Kd.C_drew ?_) | exact HR189.out)) | (with_reducible refine Kd.C_alloc ?_ _) | (with_reducible refine Kd.C_drewN ?_ _) | (with_reducible refine Kd.C_drew ?_))); (case side2 => exact HC189.out); (case side3 => repeat (first | exact (Kd.C_below HR0.out HB.out) | (with_reducible refine Kd.C_alloc ?_ _) | (with_reducible refine Kd.C_drewN ?_ _) | (with_reducible refine Kd.C_drew ?_))); (case side4 => exact HC0.out); rintro e w' ⟨rfl, ⟨nd, rfl⟩⟩; refine ⟨_, rfl, ?_⟩) | (go_at_call 14; (with_reducible refine (furlongref01_Bytes.calls _ _ y147 _ _ l1 false _ ?side1 ?side2 ?side3 ?side4 A86.out).mono ?_); (case side1 => repeat (first | exact (Kd.R_reads' HO_8.out).2.2 | (with_reducible refine Kd.C_alloc ?_ _) | (with_reducible refine Kd.C_drewN ?_ _) | (with_reducible refine Kd.C_drew ?_))); (case side2 => exact (Kd.R_reads' HO_8.out).2.1); (case side3 => repeat (first | exact (Kd.C_below HR1.out (by repeat (first | (with_reducible first | exact HB.out | apply below_alloc | apply pw_below_drewN | apply below_drew1) | exact HB.out))) | (with_reducible refine Kd.C_alloc ?_ _) | (with_reducible refine Kd.C_drewN ?_ _) | (with_reducible refine Kd.C_drew ?_))); (case side4 => exact HC1.out); rintro e w' ⟨rfl, ⟨nd, rfl⟩⟩))
                     go_meet
                     case rel => exact ⟨_, (true), (by first | rfl | (simp; done) | (simp [*]; done)), H', ⟨by have := HJ15.out; have := HK2.out; have := HK3.out; first | omega | exact Nat.le_refl _⟩, ⟨by (try simp only [hl9_2]); (try simp only [hl11_3]); (with_reducible repeat (first | apply Kd.R_alloc | apply Kd.R_drewN | apply Kd.R_drew)); exact Kd.R_mono HO_7.out (fun _ hk => ⟨hk.1, hk.2.1⟩)⟩, ⟨by (try simp only [hl9_2]); (try simp only [hl11_3]); (with_reducible repeat (first | apply Kd.R_alloc | apply Kd.R_drewN | apply Kd.R_drew)); exact Kd.R_mono HO_8.out (fun _ hk => ⟨hk.1, hk.2.1⟩)⟩, ⟨by (try simp only [hl9_2]); (try simp only [hl11_3]); (with_reducible repeat (first | apply Kd.R_alloc | apply Kd.R_drewN | apply Kd.R_drew)); exact Kd.R_mono HO_10.out (fun _ hk => ⟨hk.1, hk.2.1⟩)⟩, ⟨by repeat (first | (with_reducible first | exact HB.out | apply below_alloc | apply pw_below_drewN | apply below_drew1) | exact HB.out)⟩⟩
                   ·replace c85 := Bool.eq_false_iff.mpr c85
                    subst c85
                    have H1 : (furlonglaw03_StripKeeps.j3 k3 l0 l1 y141 y147 t161 true) = some r := by rw [if_neg (show ¬ (false = true) by decide)] at H; exact H
                    clear H
                    have H := H1
                    clear H1
                    have H' := Aside0.mk H
                    clear H
                    have q105 : ((l0.length : Int) : Int) ≤ ((y141.length : Int) : Int) := of_decide_eq_true (by first | (with_reducible assumption) | assumption)
                    obtain ⟨i0105, hi0105, _, hsz105, _⟩ := info_parts info5
                    have hroom105 : y141.length ≤ co30 := (Kd.R_reads' HO_7.out).2.1
                    have hC105 : Kd.C (Kd.int .u8) _ Ao30 y141.length y141 := (Kd.R_reads' HO_7.out).2.2
                    have hcut105 := cut_to (P := Try.prog) 22 5 .i64 Try.underlying22 hi0105 Ao30 y141.length co30 (l0.length : Int) (of_decide_eq_true (by first | (with_reducible assumption) | assumption)) q105 hroom105
                    have hr105 := Kd.C_take (m := ((l0.length : Int) : Int).toNat) hC105 (by omega)
                    have hy105 : y150.length = ((l0.length : Int) : Int).toNat := (by rw [Ny186.out, List.length_take]; omega)
                    rw [← Ny186.out] at hr105
                    rw [← hy105] at hcut105
                    have HR189 := Aside0.mk hr105
                    have HC189 := Aside0.mk (show y150.length ≤ co30 from by omega)
                    clear hr105 hC105 hroom105 hi0105 hsz105
                    have KY105 := Aside0.mk hy105
                    clear hy105
                    have KL105 := Aside0.mk (show ((l0.length : Int) : Int).toNat ≤ y141.length from by omega)
                    replace q105 := eq_true q105
                    go_wp2_with (first | ((with_reducible refine gate_callee (f := 14) rfl ?_); refine goesL_ (some 103) rfl rfl Try.func14 (by kernel_rfl) rfl #[.slice Ao30 y150.length co30, .slice A0 l0.length c0] rfl (by (try simp only [List.map_toArray, List.map_cons, List.map_nil]); first | done | rfl | (simp only [List.length_drop, List.length_take]; rfl)) ?_; (with_reducible refine (furlongref01_Bytes.calls _ _ y150 _ _ l0 false _ ?side1 ?side2 ?side3 ?side4 A84.out).mono ?_); (case side1 => repeat (first | exact (by repeat (first | (with_reducible exact HR189.out) | (with_reducible refine Kd.C_alloc ?_ _) | (with_reducible refine Kd.C_drewN ?_ _) | (with_reducible refine Kd.C_drew ?_) | exact HR189.out)) | (with_reducible refine Kd.C_alloc ?_ _) | (with_reducible refine Kd.C_drewN ?_ _) | (with_reducible refine Kd.C_drew ?_))); (case side2 => exact HC189.out); (case side3 => repeat (first | exact (Kd.C_below HR0.out HB.out) | (with_reducible refine Kd.C_alloc ?_ _) | (with_reducible refine Kd.C_drewN ?_ _) | (with_reducible refine Kd.C_drew ?_))); (case side4 => exact HC0.out); rintro e w' ⟨rfl, ⟨nd, rfl⟩⟩; refine ⟨_, rfl, ?_⟩))
                    go_meet
                    case rel => exact ⟨_, (true), (by first | rfl | (simp; done) | (simp [*]; done)), H', ⟨by have := HJ15.out; have := HK2.out; have := HK3.out; first | omega | exact Nat.le_refl _⟩, ⟨by (try simp only [hl9_2]); (try simp only [hl11_3]); (with_reducible repeat (first | apply Kd.R_alloc | apply Kd.R_drewN | apply Kd.R_drew)); exact Kd.R_mono HO_7.out (fun _ hk => ⟨hk.1, hk.2.1⟩)⟩, ⟨by (try simp only [hl9_2]); (try simp only [hl11_3]); (with_reducible repeat (first | apply Kd.R_alloc | apply Kd.R_drewN | apply Kd.R_drew)); exact Kd.R_mono HO_8.out (fun _ hk => ⟨hk.1, hk.2.1⟩)⟩, ⟨by (try simp only [hl9_2]); (try simp only [hl11_3]); (with_reducible repeat (first | apply Kd.R_alloc | apply Kd.R_drewN | apply Kd.R_drew)); exact Kd.R_mono HO_10.out (fun _ hk => ⟨hk.1, hk.2.1⟩)⟩, ⟨by repeat (first | (with_reducible first | exact HB.out | apply below_alloc | apply pw_below_drewN | apply below_drew1) | exact HB.out)⟩⟩
                  ·rw [if_neg c83] at H
                   exact absurd H (by simp)
                 ·rw [if_neg c82] at H
                  exact absurd H (by simp)
                case rest =>
                 clear HC81
                 try clear c1
                 try clear p1
                 try clear q1
                 try clear hx1
                 try clear c2
                 try clear p2
                 try clear q2
                 try clear c3
                 try clear q3
                 try clear c4
                 try clear c5
                 try clear c6
                 try clear p6
                 try clear c7
                 try clear p7
                 try clear q7
                 try clear hx7
                 try clear hf7
                 try clear c8
                 try clear c9
                 try clear c9b0
                 try clear c9b1
                 try clear q9
                 try clear c10
                 try clear c10b0
                 try clear c10b1
                 try clear q10
                 try clear c11
                 try clear c12
                 try clear c12b0
                 try clear c13
                 try clear c13b0
                 try clear c14
                 try clear c17
                 try clear p18
                 try clear q18
                 try clear hx18
                 try clear c25
                 try clear q29
                 try clear q31
                 try clear c36
                 try clear c37
                 try clear c39
                 try clear c41
                 try clear p64
                 try clear c66
                 try clear c68
                 try clear c68b0
                 try clear c69
                 try clear c69b0
                 try clear c70
                 try clear c70b0
                 try clear p71
                 try clear q71
                 try clear hx71
                 try clear hf71
                 try clear c75
                 try clear c75b0
                 try clear c76
                 try clear c76b0
                 try clear c77
                 try clear c77b0
                 try clear p78
                 try clear q78
                 try clear hx78
                 try clear hf78
                 try clear c82
                 try clear c82b0
                 try clear c82b1
                 try clear c83
                 try clear c83b0
                 try clear c83b1
                 try clear c85
                 try clear c87
                 try clear c91
                 try clear q92
                 try clear q98
                 try clear q104
                 try clear q105
                 try clear hx182_0
                 try clear hx184_0
                 try clear hx71_0
                 try clear hx78_0
                 try clear p1
                 try clear p18
                 try clear p182
                 try clear p184
                 try clear p2
                 try clear p6
                 try clear p64
                 try clear p7
                 try clear p71
                 try clear p78
                 try clear q1
                 try clear q104
                 try clear q105
                 try clear q18
                 try clear q182
                 try clear q184
                 try clear q2
                 try clear q29
                 try clear q3
                 try clear q31
                 try clear q7
                 try clear q71
                 try clear q78
                 try clear q92
                 try clear q98
                 obtain ⟨kq, x124_80, rfl, HA, HJ80, HO_7, HO_8, HO_10, HB⟩ := hcut
                 cases kq with
                 | zero => exact absurd HA.out (by simp [furlonglaw03_StripKeeps.j3])
                 | succ kj80 =>
                  have H := HA.out
                  clear HA
                  simp only [furlonglaw03_StripKeeps.j3] at H
                  by_cases c106 : x124_80 = true
                  ·subst c106
                   have H1 : (if (l1.length : Int) > 60000 then (if 0 ≤ (l0.length : Int) then (if (l0.length : Int) ≤ (y141.length : Int) then ((furlongref01_Bytes.f (y141.take ((l0.length : Int) : Int).toNat) l0).bind fun t203 => (if t203 = true then ((furlongref01_Bytes.f y147 l1).bind fun t204 => (some t204)) else (some false))) else (none)) else (none)) else (some false)) = some r := by rw [if_pos rfl] at H; exact H
                   clear H
                   have H := H1
                   clear H1
                   by_cases c107 : (l1.length : Int) > 60000
                   ·rw [if_pos c107] at H
                    have c107b0 : decide (60000 < (l1.length : Int)) = true := decide_eq_true c107
                    have c107b1 : decide (60000 < l1.length) = true := decide_eq_true (by omega)
                    clear c107
                    by_cases c108 : 0 ≤ (l0.length : Int)
                    ·rw [if_pos c108] at H
                     have c108b0 := eq_true c108
                     have c108b1 : decide (0 ≤ (l0.length : Int)) = true := decide_eq_true c108
                     clear c108
                     by_cases c109 : (l0.length : Int) ≤ (y141.length : Int)
                     ·rw [if_pos c109] at H
                      have c109b0 := eq_true c109
                      have c109b1 : decide ((l0.length : Int) ≤ (y141.length : Int)) = true := decide_eq_true c109
                      clear c109
                      have hy199 := Ny150.out
                      replace H : ((furlongref01_Bytes.f y150 l0).bind fun t203 => (if t203 = true then ((furlongref01_Bytes.f y147 l1).bind fun t204 => (some t204)) else (some false))) = some r := by first | (rw [hy199]; with_reducible exact H) | (have H2_ := (Option.bind_some _ _).symm.trans H; rw [hy199]; with_reducible exact H2_) | (have H2_ := (Option.bind_some _ _).symm.trans H; with_reducible exact H2_) | with_reducible exact H | (rw [hy199]; exact H) | exact H
                      have Ny199 := Aside0.mk hy199
                      clear hy199
                      replace H := Option.bind_eq_some_iff.mp H
                      obtain ⟨t203, A1100, H⟩ := H
                      replace H : (if t203 = true then ((furlongref01_Bytes.f y147 l1).bind fun t204 => (some t204)) else (some false)) = some r := H
                      have A110 := Aside0.mk A1100
                      clear A1100
                      by_cases c111 : t203 = true
                      ·subst c111
                       have H1 : ((furlongref01_Bytes.f y147 l1).bind fun t204 => (some t204)) = some r := by rw [if_pos rfl] at H; exact H
                       clear H
                       have H := H1
                       clear H1
                       replace H := Option.bind_eq_some_iff.mp H
                       obtain ⟨t204, A1120, H⟩ := H
                       replace H : (some t204) = some r := H
                       have A112 := Aside0.mk A1120
                       clear A1120
                       obtain rfl := Option.some.inj H
                       have q113 : ((l0.length : Int) : Int) ≤ ((y141.length : Int) : Int) := of_decide_eq_true (by first | (with_reducible assumption) | assumption)
                       obtain ⟨i0113, hi0113, _, hsz113, _⟩ := info_parts info5
                       have hroom113 : y141.length ≤ co30 := (Kd.R_reads' HO_7.out).2.1
                       have hC113 : Kd.C (Kd.int .u8) _ Ao30 y141.length y141 := (Kd.R_reads' HO_7.out).2.2
                       have hcut113 := cut_to (P := Try.prog) 22 5 .i64 Try.underlying22 hi0113 Ao30 y141.length co30 (l0.length : Int) (of_decide_eq_true (by first | (with_reducible assumption) | assumption)) q113 hroom113
                       have hr113 := Kd.C_take (m := ((l0.length : Int) : Int).toNat) hC113 (by omega)
                       have hy113 : y150.length = ((l0.length : Int) : Int).toNat := (by rw [Ny199.out, List.length_take]; omega)
                       rw [← Ny199.out] at hr113
                       rw [← hy113] at hcut113
                       have HR202 := Aside0.mk hr113
                       have HC202 := Aside0.mk (show y150.length ≤ co30 from by omega)
                       clear hr113 hC113 hroom113 hi0113 hsz113
                       have KY113 := Aside0.mk hy113
                       clear hy113
                       have KL113 := Aside0.mk (show ((l0.length : Int) : Int).toNat ≤ y141.length from by omega)
                       replace q113 := eq_true q113
                       go_wp2_with (first | (go_at_call 14; (with_reducible refine (furlongref01_Bytes.calls _ _ y150 _ _ l0 true _ ?side1 ?side2 ?side3 ?side4 A110.out).mono ?_); (case side1 => repeat (first | exact (by repeat (first | (with_reducible exact HR202.out) | (with_reducible refine Kd.C_alloc ?_ _) | (with_reducible refine Kd.C_drewN ?_ _) | (with_reducible refine Kd.C_drew ?_) | exact HR202.out)) | (with_reducible refine Kd.C_alloc ?_ _) | (with_reducible refine Kd.C_drewN ?_ _) | (with_reducible refine Kd.C_drew ?_))); (case side2 => exact HC202.out); (case side3 => repeat (first | exact (Kd.C_below HR0.out HB.out) | (with_reducible refine Kd.C_alloc ?_ _) | (with_reducible refine Kd.C_drewN ?_ _) | (with_reducible refine Kd.C_drew ?_))); (case side4 => exact HC0.out); rintro e w' ⟨rfl, ⟨nd, rfl⟩⟩) | (go_at_call 14; (with_reducible refine (furlongref01_Bytes.calls _ _ y147 _ _ l1 t204 _ ?side1 ?side2 ?side3 ?side4 A112.out).mono ?_); (case side1 => repeat (first | exact (Kd.R_reads' HO_8.out).2.2 | (with_reducible refine Kd.C_alloc ?_ _) | (with_reducible refine Kd.C_drewN ?_ _) | (with_reducible refine Kd.C_drew ?_))); (case side2 => exact (Kd.R_reads' HO_8.out).2.1); (case side3 => repeat (first | exact (Kd.C_below HR1.out (by repeat (first | (with_reducible first | exact HB.out | apply below_alloc | apply pw_below_drewN | apply below_drew1) | exact HB.out))) | (with_reducible refine Kd.C_alloc ?_ _) | (with_reducible refine Kd.C_drewN ?_ _) | (with_reducible refine Kd.C_drew ?_))); (case side4 => exact HC1.out); rintro e w' ⟨rfl, ⟨nd, rfl⟩⟩))
                       go_ret
                       exact ⟨by first | rfl | (simp [errW_none, errW_some] <;> rfl) | (simp [*, errW_none, errW_some] <;> rfl), by repeat (first | (with_reducible first | exact HB.out | apply below_alloc | apply pw_below_drewN | apply below_drew1) | exact HB.out)⟩
                      ·replace c111 := Bool.eq_false_iff.mpr c111
                       subst c111
                       have H1 : (some false) = some r := by rw [if_neg (show ¬ (false = true) by decide)] at H; exact H
                       clear H
                       have H := H1
                       clear H1
                       obtain rfl := Option.some.inj H
                       have q114 : ((l0.length : Int) : Int) ≤ ((y141.length : Int) : Int) := of_decide_eq_true (by first | (with_reducible assumption) | assumption)
                       obtain ⟨i0114, hi0114, _, hsz114, _⟩ := info_parts info5
                       have hroom114 : y141.length ≤ co30 := (Kd.R_reads' HO_7.out).2.1
                       have hC114 : Kd.C (Kd.int .u8) _ Ao30 y141.length y141 := (Kd.R_reads' HO_7.out).2.2
                       have hcut114 := cut_to (P := Try.prog) 22 5 .i64 Try.underlying22 hi0114 Ao30 y141.length co30 (l0.length : Int) (of_decide_eq_true (by first | (with_reducible assumption) | assumption)) q114 hroom114
                       have hr114 := Kd.C_take (m := ((l0.length : Int) : Int).toNat) hC114 (by omega)
                       have hy114 : y150.length = ((l0.length : Int) : Int).toNat := (by rw [Ny199.out, List.length_take]; omega)
                       rw [← Ny199.out] at hr114
                       rw [← hy114] at hcut114
                       have HR202 := Aside0.mk hr114
                       have HC202 := Aside0.mk (show y150.length ≤ co30 from by omega)
                       clear hr114 hC114 hroom114 hi0114 hsz114
                       have KY114 := Aside0.mk hy114
                       clear hy114
                       have KL114 := Aside0.mk (show ((l0.length : Int) : Int).toNat ≤ y141.length from by omega)
                       replace q114 := eq_true q114
                       go_wp2_with (first | (go_at_call 14; (with_reducible refine (furlongref01_Bytes.calls _ _ y150 _ _ l0 false _ ?side1 ?side2 ?side3 ?side4 A110.out).mono ?_); (case side1 => repeat (first | exact (by repeat (first | (with_reducible exact HR202.out) | (with_reducible refine Kd.C_alloc ?_ _) | (with_reducible refine Kd.C_drewN ?_ _) | (with_reducible refine Kd.C_drew ?_) | exact HR202.out)) | (with_reducible refine Kd.C_alloc ?_ _) | (with_reducible refine Kd.C_drewN ?_ _) | (with_reducible refine Kd.C_drew ?_))); (case side2 => exact HC202.out); (case side3 => repeat (first | exact (Kd.C_below HR0.out HB.out) | (with_reducible refine Kd.C_alloc ?_ _) | (with_reducible refine Kd.C_drewN ?_ _) | (with_reducible refine Kd.C_drew ?_))); (case side4 => exact HC0.out); rintro e w' ⟨rfl, ⟨nd, rfl⟩⟩))
                       go_ret
                       exact ⟨by first | rfl | (simp [errW_none, errW_some] <;> rfl) | (simp [*, errW_none, errW_some] <;> rfl), by repeat (first | (with_reducible first | exact HB.out | apply below_alloc | apply pw_below_drewN | apply below_drew1) | exact HB.out)⟩
                     ·rw [if_neg c109] at H
                      exact absurd H (by simp)
                    ·rw [if_neg c108] at H
                     exact absurd H (by simp)
                   ·rw [if_neg c107] at H
                    have c107b0 : decide (60000 < (l1.length : Int)) = false := decide_eq_false c107
                    have c107b1 : decide (60000 < l1.length) = false := decide_eq_false (by omega)
                    clear c107
                    obtain rfl := Option.some.inj H
                    go_wp2
                    go_ret
                    exact ⟨by first | rfl | (simp [errW_none, errW_some] <;> rfl) | (simp [*, errW_none, errW_some] <;> rfl), by repeat (first | (with_reducible first | exact HB.out | apply below_alloc | apply pw_below_drewN | apply below_drew1) | exact HB.out)⟩
                  ·replace c106 := Bool.eq_false_iff.mpr c106
                   subst c106
                   have H1 : ((strip_Guard.f y147).bind fun bt205 => ((strip_Mend.f bt205.1).bind fun bt209 => ((strip_ReadBytes.f t161 (l0.length : Int)).bind fun bt214 => (furlonglaw03_StripKeeps.l2 kj80 l1 t161 bt205.1 bt209.1 bt209.2.2 bt214.1 bt214.2.2 (bt205.1.length : Int) 0)))) = some r := by rw [if_neg (show ¬ (false = true) by decide)] at H; exact H
                   clear H
                   have H := H1
                   clear H1
                   replace H := Option.bind_eq_some_iff.mp H
                   obtain ⟨⟨t205, t206⟩, A1150, H⟩ := H
                   replace H : ((strip_Mend.f t205).bind fun bt209 => ((strip_ReadBytes.f t161 (l0.length : Int)).bind fun bt214 => (furlonglaw03_StripKeeps.l2 kj80 l1 t161 t205 bt209.1 bt209.2.2 bt214.1 bt214.2.2 (t205.length : Int) 0))) = some r := H
                   have A115 := Aside0.mk A1150
                   clear A1150
                   replace H := Option.bind_eq_some_iff.mp H
                   obtain ⟨⟨t209, t210, t211⟩, A1160, H⟩ := H
                   replace H : ((strip_ReadBytes.f t161 (l0.length : Int)).bind fun bt214 => (furlonglaw03_StripKeeps.l2 kj80 l1 t161 t205 t209 t211 bt214.1 bt214.2.2 (t205.length : Int) 0)) = some r := H
                   have A116 := Aside0.mk A1160
                   clear A1160
                   replace H := Option.bind_eq_some_iff.mp H
                   obtain ⟨⟨t214, t215, t216⟩, A1170, H⟩ := H
                   replace H : (furlonglaw03_StripKeeps.l2 kj80 l1 t161 t205 t209 t211 t214 t216 (t205.length : Int) 0) = some r := H
                   have A117 := Aside0.mk A1170
                   clear A1170
                   have H' := Aside0.mk H
                   clear H
                   go_wp2_with (first | ((with_reducible refine gate_callee (f := 12) rfl ?_); refine goesL_ (some 143) rfl rfl Try.func12 (by kernel_rfl) rfl #[.slice Ao33 y147.length co33] rfl (by (try simp only [List.map_toArray, List.map_cons, List.map_nil]); first | done | rfl | (simp only [List.length_drop, List.length_take]; rfl)) ?_; (with_reducible refine (strip_Guard.calls _ _ y147 t205 t206 _ ?side1 ?side2 A115.out).mono ?_); (case side1 => repeat (first | exact (Kd.R_reads' HO_8.out).2.2 | (with_reducible refine Kd.C_alloc ?_ _) | (with_reducible refine Kd.C_drewN ?_ _) | (with_reducible refine Kd.C_drew ?_))); (case side2 => exact (Kd.R_reads' HO_8.out).2.1); rintro e w118 ⟨v207, rfl, ho0, hb⟩; refine ⟨_, rfl, ?_⟩; have n0_ := Aside0.mk (Kd.R_elder' (by (with_reducible repeat (first | apply Kd.R_alloc | apply Kd.R_drewN | apply Kd.R_drew)); exact HO_7.out) (Kd.R_base ho0) hb); have n1_ := Aside0.mk (Kd.R_elder' (by (with_reducible repeat (first | apply Kd.R_alloc | apply Kd.R_drewN | apply Kd.R_drew)); exact HO_8.out) (Kd.R_base ho0) hb); have n2_ := Aside0.mk (Kd.R_elder' (by (with_reducible repeat (first | apply Kd.R_alloc | apply Kd.R_drewN | apply Kd.R_drew)); exact HO_10.out) (Kd.R_base ho0) hb); have n3_ := Aside0.mk (Kd.R_lower (Kd.R_new' (Kd.R_new' (Kd.R_new' ho0 (Kd.R_lt (by (with_reducible repeat (first | apply Kd.R_alloc | apply Kd.R_drewN | apply Kd.R_drew)); exact HO_7.out))) (Kd.R_lt (by (with_reducible repeat (first | apply Kd.R_alloc | apply Kd.R_drewN | apply Kd.R_drew)); exact HO_8.out))) (Kd.R_lt (by (with_reducible repeat (first | apply Kd.R_alloc | apply Kd.R_drewN | apply Kd.R_drew)); exact HO_10.out))) (below_size (by repeat (first | (with_reducible first | exact HB.out | apply below_alloc | apply pw_below_drewN | apply below_drew1) | exact HB.out)))); have n4_ := Aside0.mk (below_step (by repeat (first | (with_reducible first | exact HB.out | apply below_alloc | apply pw_below_drewN | apply below_drew1) | exact HB.out)) hb); clear HO_7; clear HO_8; clear HO_10; clear HB; have HO_7 := n0_; have HO_8 := n1_; have HO_10 := n2_; have HO208 := n3_; have HB := n4_; clear n0_ n1_ n2_ n3_ n4_; (try clear hb); (try clear hb2); (try clear hk); (try clear hi); (try clear ho0); obtain ⟨Ao119, co119, eo119⟩ := Kd.R_slice HO208.out; subst eo119) | ((with_reducible refine gate_callee (f := 15) rfl ?_); refine goesL_ (some 148) rfl rfl Try.func15 (by kernel_rfl) rfl #[.slice Ao119 t205.length co119] rfl (by (try simp only [List.map_toArray, List.map_cons, List.map_nil]); first | done | rfl | (simp only [List.length_drop, List.length_take]; rfl)) ?_; (with_reducible refine (strip_Mend.calls _ _ t205 t209 t210 t211 _ ?side1 ?side2 A116.out).mono ?_); (case side1 => repeat (first | exact (Kd.R_reads' HO208.out).2.2 | (with_reducible refine Kd.C_alloc ?_ _) | (with_reducible refine Kd.C_drewN ?_ _) | (with_reducible refine Kd.C_drew ?_))); (case side2 => exact (Kd.R_reads' HO208.out).2.1); rintro e w120 ⟨v212, rfl, ho0, hb⟩; refine ⟨_, rfl, ?_⟩; have n0_ := Aside0.mk (Kd.R_elder' (by (with_reducible repeat (first | apply Kd.R_alloc | apply Kd.R_drewN | apply Kd.R_drew)); exact HO_7.out) (Kd.R_base ho0) hb); have n1_ := Aside0.mk (Kd.R_elder' (by (with_reducible repeat (first | apply Kd.R_alloc | apply Kd.R_drewN | apply Kd.R_drew)); exact HO_8.out) (Kd.R_base ho0) hb); have n2_ := Aside0.mk (Kd.R_elder' (by (with_reducible repeat (first | apply Kd.R_alloc | apply Kd.R_drewN | apply Kd.R_drew)); exact HO_10.out) (Kd.R_base ho0) hb); have n3_ := Aside0.mk (Kd.R_elder' (by (with_reducible repeat (first | apply Kd.R_alloc | apply Kd.R_drewN | apply Kd.R_drew)); exact HO208.out) (Kd.R_base ho0) hb); have n4_ := Aside0.mk (Kd.R_lower (Kd.R_new' (Kd.R_new' (Kd.R_new' (Kd.R_new' ho0 (Kd.R_lt (by (with_reducible repeat (first | apply Kd.R_alloc | apply Kd.R_drewN | apply Kd.R_drew)); exact HO_7.out))) (Kd.R_lt (by (with_reducible repeat (first | apply Kd.R_alloc | apply Kd.R_drewN | apply Kd.R_drew)); exact HO_8.out))) (Kd.R_lt (by (with_reducible repeat (first | apply Kd.R_alloc | apply Kd.R_drewN | apply Kd.R_drew)); exact HO_10.out))) (Kd.R_lt (by (with_reducible repeat (first | apply Kd.R_alloc | apply Kd.R_drewN | apply Kd.R_drew)); exact HO208.out))) (below_size (by repeat (first | (with_reducible first | exact HB.out | apply below_alloc | apply pw_below_drewN | apply below_drew1) | exact HB.out)))); have n5_ := Aside0.mk (below_step (by repeat (first | (with_reducible first | exact HB.out | apply below_alloc | apply pw_below_drewN | apply below_drew1) | exact HB.out)) hb); clear HO_7; clear HO_8; clear HO_10; clear HO208; clear HB; have HO_7 := n0_; have HO_8 := n1_; have HO_10 := n2_; have HO208 := n3_; have HO213 := n4_; have HB := n5_; clear n0_ n1_ n2_ n3_ n4_ n5_; (try clear hb); (try clear hb2); (try clear hk); (try clear hi); (try clear ho0); obtain ⟨Ao121, co121, eo121⟩ := Kd.R_slice HO_10.out; subst eo121) | ((with_reducible refine gate_callee (f := 27) rfl ?_); refine goesL_ (some 156) rfl rfl Try.func27 (by kernel_rfl) rfl #[.slice Ao121 t161.length co121, .int .i64 (l0.length : Int)] rfl (by (try simp only [List.map_toArray, List.map_cons, List.map_nil]); first | done | rfl | (simp only [List.length_drop, List.length_take]; rfl)) ?_; (with_reducible refine (strip_ReadBytes.calls _ _ t161 (l0.length : Int) t214 t215 t216 _ ?side1 ?side2 A117.out).mono ?_); (case side1 => repeat (first | exact (Kd.R_reads' HO_10.out).2.2 | (with_reducible refine Kd.C_alloc ?_ _) | (with_reducible refine Kd.C_drewN ?_ _) | (with_reducible refine Kd.C_drew ?_))); (case side2 => exact (Kd.R_reads' HO_10.out).2.1); rintro e w122 ⟨v217, rfl, ho0, hb⟩; refine ⟨_, rfl, ?_⟩; have n0_ := Aside0.mk (Kd.R_elder' (by (with_reducible repeat (first | apply Kd.R_alloc | apply Kd.R_drewN | apply Kd.R_drew)); exact HO_7.out) (Kd.R_base ho0) hb); have n1_ := Aside0.mk (Kd.R_elder' (by (with_reducible repeat (first | apply Kd.R_alloc | apply Kd.R_drewN | apply Kd.R_drew)); exact HO_8.out) (Kd.R_base ho0) hb); have n2_ := Aside0.mk (Kd.R_elder' (by (with_reducible repeat (first | apply Kd.R_alloc | apply Kd.R_drewN | apply Kd.R_drew)); exact HO_10.out) (Kd.R_base ho0) hb); have n3_ := Aside0.mk (Kd.R_elder' (by (with_reducible repeat (first | apply Kd.R_alloc | apply Kd.R_drewN | apply Kd.R_drew)); exact HO208.out) (Kd.R_base ho0) hb); have n4_ := Aside0.mk (Kd.R_elder' (by (with_reducible repeat (first | apply Kd.R_alloc | apply Kd.R_drewN | apply Kd.R_drew)); exact HO213.out) (Kd.R_base ho0) hb); have n5_ := Aside0.mk (Kd.R_lower (Kd.R_new' (Kd.R_new' (Kd.R_new' (Kd.R_new' (Kd.R_new' ho0 (Kd.R_lt (by (with_reducible repeat (first | apply Kd.R_alloc | apply Kd.R_drewN | apply Kd.R_drew)); exact HO_7.out))) (Kd.R_lt (by (with_reducible repeat (first | apply Kd.R_alloc | apply Kd.R_drewN | apply Kd.R_drew)); exact HO_8.out))) (Kd.R_lt (by (with_reducible repeat (first | apply Kd.R_alloc | apply Kd.R_drewN | apply Kd.R_drew)); exact HO_10.out))) (Kd.R_lt (by (with_reducible repeat (first | apply Kd.R_alloc | apply Kd.R_drewN | apply Kd.R_drew)); exact HO208.out))) (Kd.R_lt (by (with_reducible repeat (first | apply Kd.R_alloc | apply Kd.R_drewN | apply Kd.R_drew)); exact HO213.out))) (below_size (by repeat (first | (with_reducible first | exact HB.out | apply below_alloc | apply pw_below_drewN | apply below_drew1) | exact HB.out)))); have n6_ := Aside0.mk (below_step (by repeat (first | (with_reducible first | exact HB.out | apply below_alloc | apply pw_below_drewN | apply below_drew1) | exact HB.out)) hb); clear HO_7; clear HO_8; clear HO_10; clear HO208; clear HO213; clear HB; have HO_7 := n0_; have HO_8 := n1_; have HO_10 := n2_; have HO208 := n3_; have HO213 := n4_; have HO218 := n5_; have HB := n6_; clear n0_ n1_ n2_ n3_ n4_ n5_ n6_; (try clear hb); (try clear hb2); (try clear hk); (try clear hi); (try clear ho0)))
                   go_loopg [162] kj80 (fun kq v162 w' => ∃ (x15_5 : List Int) (x162_5 : Int), v162 = .int .i64 x162_5 ∧ Aside0 (furlonglaw03_StripKeeps.l2 kq l1 t161 x15_5 t209 t211 t214 t216 (t205.length : Int) x162_5 = some r) ∧ Aside0 (kq ≤ kj80) ∧ Aside0 (Kd.R (Kd.int .u8) 5 w' w.heap.size (fun k_ => some k_ ≠ ((.slice Ao119 t205.length co119) : Value).ownBlock ∧ some k_ ≠ (v212 : Value).ownBlock ∧ some k_ ≠ (v217 : Value).ownBlock) (.slice Ao121 t161.length co121) t161) ∧ Aside0 (Kd.R (Kd.int .u8) 5 w' w.heap.size (fun k_ => some k_ ≠ ((.slice Ao121 t161.length co121) : Value).ownBlock ∧ some k_ ≠ (v212 : Value).ownBlock ∧ some k_ ≠ (v217 : Value).ownBlock) (.slice Ao119 t205.length co119) x15_5) ∧ Aside0 (Kd.R (Kd.int .u8) 5 w' w.heap.size (fun k_ => some k_ ≠ ((.slice Ao121 t161.length co121) : Value).ownBlock ∧ some k_ ≠ ((.slice Ao119 t205.length co119) : Value).ownBlock ∧ some k_ ≠ (v217 : Value).ownBlock) v212 t209) ∧ Aside0 (Kd.R (Kd.int .u8) 5 w' w.heap.size (fun k_ => some k_ ≠ ((.slice Ao121 t161.length co121) : Value).ownBlock ∧ some k_ ≠ ((.slice Ao119 t205.length co119) : Value).ownBlock ∧ some k_ ≠ (v212 : Value).ownBlock) v217 t214) ∧ Aside0 (Below w.heap.size w w'))
                   case atStart => exact ⟨(t205), (0), (by first | rfl | (simp; done) | (simp [*]; done)), H', ⟨Nat.le_refl _⟩, ⟨by (try simp only [hl9_2]); (try simp only [hl11_3]); (with_reducible repeat (first | apply Kd.R_alloc | apply Kd.R_drewN | apply Kd.R_drew)); exact Kd.R_mono HO_10.out (fun _ hk => ⟨hk.1.1.2, ⟨hk.1.2, hk.2⟩⟩)⟩, ⟨by (try simp only [hl9_2]); (try simp only [hl11_3]); (with_reducible repeat (first | apply Kd.R_alloc | apply Kd.R_drewN | apply Kd.R_drew)); exact Kd.R_mono HO208.out (fun _ hk => ⟨hk.1.1.2, ⟨hk.1.2, hk.2⟩⟩)⟩, ⟨by (try simp only [hl9_2]); (try simp only [hl11_3]); (with_reducible repeat (first | apply Kd.R_alloc | apply Kd.R_drewN | apply Kd.R_drew)); exact Kd.R_mono HO213.out (fun _ hk => ⟨hk.1.1.2, ⟨hk.1.2, hk.2⟩⟩)⟩, ⟨by (try simp only [hl9_2]); (try simp only [hl11_3]); (with_reducible repeat (first | apply Kd.R_alloc | apply Kd.R_drewN | apply Kd.R_drew)); exact Kd.R_mono HO218.out (fun _ hk => ⟨hk.1.1.2, ⟨hk.1.2, hk.2⟩⟩)⟩, ⟨by repeat (first | (with_reducible first | exact HB.out | apply below_alloc | apply pw_below_drewN | apply below_drew1) | exact HB.out)⟩⟩
                   case round =>
                    clear H'
                    try clear c1
                    try clear p1
                    try clear q1
                    try clear hx1
                    try clear c2
                    try clear p2
                    try clear q2
                    try clear c3
                    try clear q3
                    try clear c4
                    try clear c5
                    try clear c6
                    try clear p6
                    try clear c7
                    try clear p7
                    try clear q7
                    try clear hx7
                    try clear hf7
                    try clear c8
                    try clear c9
                    try clear c9b0
                    try clear c9b1
                    try clear q9
                    try clear c10
                    try clear c10b0
                    try clear c10b1
                    try clear q10
                    try clear c11
                    try clear q11
                    try clear c12
                    try clear c12b0
                    try clear c13
                    try clear c13b0
                    try clear c14
                    try clear c15
                    try clear c17
                    try clear p18
                    try clear q18
                    try clear hx18
                    try clear c25
                    try clear c27
                    try clear q29
                    try clear q31
                    try clear c36
                    try clear c37
                    try clear c39
                    try clear c41
                    try clear p64
                    try clear c66
                    try clear c68
                    try clear c68b0
                    try clear c69
                    try clear c69b0
                    try clear c70
                    try clear c70b0
                    try clear p71
                    try clear q71
                    try clear hx71
                    try clear hf71
                    try clear c75
                    try clear c75b0
                    try clear c76
                    try clear c76b0
                    try clear c77
                    try clear c77b0
                    try clear p78
                    try clear q78
                    try clear hx78
                    try clear hf78
                    try clear c82
                    try clear c82b0
                    try clear c82b1
                    try clear c83
                    try clear c83b0
                    try clear c83b1
                    try clear c85
                    try clear c87
                    try clear c91
                    try clear q92
                    try clear q98
                    try clear q104
                    try clear q105
                    try clear c106
                    try clear c107
                    try clear c107b0
                    try clear c107b1
                    try clear c108
                    try clear c108b0
                    try clear c108b1
                    try clear c109
                    try clear c109b0
                    try clear c109b1
                    try clear c111
                    try clear q113
                    try clear q114
                    try clear hx182_0
                    try clear hx184_0
                    try clear hx71_0
                    try clear hx78_0
                    try clear p1
                    try clear p18
                    try clear p182
                    try clear p184
                    try clear p2
                    try clear p6
                    try clear p64
                    try clear p7
                    try clear p71
                    try clear p78
                    try clear q1
                    try clear q10
                    try clear q104
                    try clear q105
                    try clear q113
                    try clear q114
                    try clear q18
                    try clear q182
                    try clear q184
                    try clear q2
                    try clear q29
                    try clear q3
                    try clear q31
                    try clear q7
                    try clear q71
                    try clear q78
                    try clear q9
                    try clear q92
                    try clear q98
                    obtain ⟨x15_5, x162_5, rfl, HA, HK5, HO_10, HO_15, HO_17, HO_20, HB⟩ := hrel
                    have hl15_5 := (Kd.R_reads' HO_15.out).1
                    rw [hl15_5] at HO_15
                    (try simp only [hl15_5])
                    (try simp only [hl15_5] at HO_10)
                    (try simp only [hl15_5] at HO_17)
                    (try simp only [hl15_5] at HO_20)
                    cases gk with
                    | zero => exact absurd HA.out (by simp [furlonglaw03_StripKeeps.l2])
                    | succ k5 =>
                     have H := HA.out
                     clear HA
                     simp only [furlonglaw03_StripKeeps.l2] at H
                     by_cases c123 : x162_5 < (t205.length : Int)
                     ·rw [if_pos c123] at H
                      have c123b0 : decide (x162_5 < (t205.length : Int)) = true := decide_eq_true c123
                      clear c123
                      by_cases c124 : 0 ≤ x162_5
                      ·rw [if_pos c124] at H
                       have c124b0 : decide (0 ≤ x162_5) = true := decide_eq_true c124
                       clear c124
                       by_cases c125 : x162_5 < (x15_5.length : Int)
                       ·rw [if_pos c125] at H
                        have c125b0 : decide (x162_5 < (x15_5.length : Int)) = true := decide_eq_true c125
                        clear c125
                        obtain ⟨y220, hy220⟩ : ∃ y_ : List Int, y_ = (x15_5.set (x162_5 : Int).toNat (Go.bits .xor .u8 (rd x15_5 x162_5) 255)) := ⟨_, rfl⟩
                        replace H : (furlonglaw03_StripKeeps.l2 k5 l1 t161 y220 t209 t211 t214 t216 (t205.length : Int) (wrap64 (x162_5 + 1))) = some r := by first | (rw [hy220]; with_reducible exact H) | (have H2_ := (Option.bind_some _ _).symm.trans H; rw [hy220]; with_reducible exact H2_) | (have H2_ := (Option.bind_some _ _).symm.trans H; with_reducible exact H2_) | with_reducible exact H | (rw [hy220]; exact H) | exact H
                        have Ny220 := Aside0.mk hy220
                        clear hy220
                        have H' := Aside0.mk H
                        clear H
                        have p219 : 0 ≤ (x162_5 : Int) := of_decide_eq_true (by first | (with_reducible assumption) | assumption)
                        have q219 : x162_5 < (x15_5.length : Int) := of_decide_eq_true (by first | (with_reducible assumption) | assumption)
                        obtain ⟨ad219, e219, hx219_0⟩ := Kd.at_int (Kd.R_reads' HO_15.out).2.2 x162_5 p219 q219
                        cases e219
                        replace p219 := eq_true p219
                        replace q219 := eq_true q219
                        have p126 : 0 ≤ (x162_5 : Int) := of_decide_eq_true (by first | (with_reducible assumption) | assumption)
                        have q126 : (x162_5 : Int) < ((x15_5.length : Int) : Int) := of_decide_eq_true (by first | (with_reducible assumption) | assumption)
                        obtain ⟨go126, co126, eo126, gb126, gl126, cl126, HG126⟩ := Kd.R_form HO_15.out (by omega)
                        (first | cases eo126 | (injection eo126 with ea_ en_ ec_; (first | subst ea_ | (injection ea_ with ea_; subst ea_)); subst ec_; clear en_))
                        have GB126 := Aside0.mk gb126
                        have GG126 := Aside0.mk HG126
                        clear gb126 gl126 HG126
                        (first | simp only [add_plain] at hx219_0 | skip)
                        obtain ⟨hx126_0, hf126_0⟩ := Kd.R_celln 0 HO_15.out (x162_5 : Int) p126 q126
                        replace p126 := eq_true p126
                        replace q126 := eq_true q126
                        have HP127 := Kd.R_putg HO_15.out (x162_5 : Int) (Go.bits .xor .u8 (rd x15_5 x162_5) 255)
                        go_wp2_with (first | ((with_reducible refine gate_store (t := 5) (p := 170) rfl ?_); refine store_event (t := 5) (p := 170) (v := ?vo_w128) (w1 := (wr.setCell ⟨go126, (x162_5 : Int).toNat, none⟩ (.int .u8 (Go.bits .xor .u8 (rd x15_5 x162_5) 255)))) ?hg ?ho ?hn ?hr ?_; (case ho => rfl); (case hg => rfl); (case hn => rfl); (case hr => first | (go_simp; done) | (go_simp; rfl)); intro w128 hw; have hg : wr.grownBy w128 (some go126) := (by rw [hw]; exact HP127.2); have hp_ : Kd.R (Kd.int .u8) 5 w128 w.heap.size (fun k_ => some k_ ≠ (.slice Ao121 t161.length co121 : Value).ownBlock ∧ some k_ ≠ (v212 : Value).ownBlock ∧ some k_ ≠ (v217 : Value).ownBlock) (.slice (some ⟨go126, 0, none⟩) x15_5.length co119) y220 := (by rw [hw, Ny220.out]; exact HP127.1); clear HP127; have n0_ := Aside0.mk (Kd.R_after (v := (.slice (some ⟨go126, 0, none⟩) x15_5.length co119)) (v1 := (.slice (some ⟨go126, 0, none⟩) x15_5.length co119)) (ok := (fun k_ => some k_ ≠ (v212 : Value).ownBlock ∧ some k_ ≠ (v217 : Value).ownBlock)) (by (with_reducible repeat (first | apply Kd.R_alloc | apply Kd.R_drewN | apply Kd.R_drew)); exact Kd.R_mono HO_10.out (fun _ hk => ⟨⟨hk.2.1, hk.2.2⟩, hk.1⟩)) hg (.inl rfl)); have n1_ := Aside0.mk (hp_); have n2_ := Aside0.mk (Kd.R_after (v := (.slice (some ⟨go126, 0, none⟩) x15_5.length co119)) (v1 := (.slice (some ⟨go126, 0, none⟩) x15_5.length co119)) (ok := (fun k_ => some k_ ≠ (.slice Ao121 t161.length co121 : Value).ownBlock ∧ some k_ ≠ (v217 : Value).ownBlock)) (by (with_reducible repeat (first | apply Kd.R_alloc | apply Kd.R_drewN | apply Kd.R_drew)); exact Kd.R_mono HO_17.out (fun _ hk => ⟨⟨hk.1, hk.2.2⟩, hk.2.1⟩)) hg (.inl rfl)); have n3_ := Aside0.mk (Kd.R_after (v := (.slice (some ⟨go126, 0, none⟩) x15_5.length co119)) (v1 := (.slice (some ⟨go126, 0, none⟩) x15_5.length co119)) (ok := (fun k_ => some k_ ≠ (.slice Ao121 t161.length co121 : Value).ownBlock ∧ some k_ ≠ (v212 : Value).ownBlock)) (by (with_reducible repeat (first | apply Kd.R_alloc | apply Kd.R_drewN | apply Kd.R_drew)); exact Kd.R_mono HO_20.out (fun _ hk => ⟨⟨hk.1, hk.2.2⟩, hk.2.1⟩)) hg (.inl rfl)); have n4_ := Aside0.mk ((by rw [hw]; exact below_set (HB.out) GB126.out : Below w.heap.size w w128)); clear HO_10; clear HO_15; clear HO_17; clear HO_20; clear HB; have HO_10 := n0_; have HO_15 := n1_; have HO_17 := n2_; have HO_20 := n3_; have HB := n4_; clear n0_ n1_ n2_ n3_ n4_; clear hg hw hp_))
                        (try simp only [← hl15_5])
                        go_roundg k5
                        case measure => have := HJ15.out; have := HK2.out; have := HK3.out; have := HJ80.out; have := HK5.out; omega
                        case rel => exact ⟨(y220), (wrap64 (x162_5 + 1)), (by first | rfl | (simp; done) | (simp [*]; done)), H', ⟨by have := HJ15.out; have := HK2.out; have := HK3.out; have := HJ80.out; have := HK5.out; omega⟩, ⟨by (try simp only [hl9_2]); (try simp only [hl11_3]); (try simp only [hl15_5]); (with_reducible repeat (first | apply Kd.R_alloc | apply Kd.R_drewN | apply Kd.R_drew)); exact Kd.R_mono HO_10.out (fun _ hk => ⟨hk.2, ⟨hk.1.1, hk.1.2⟩⟩)⟩, ⟨by (try simp only [hl9_2]); (try simp only [hl11_3]); (try simp only [hl15_5]); (with_reducible repeat (first | apply Kd.R_alloc | apply Kd.R_drewN | apply Kd.R_drew)); exact HO_15.out⟩, ⟨by (try simp only [hl9_2]); (try simp only [hl11_3]); (try simp only [hl15_5]); (with_reducible repeat (first | apply Kd.R_alloc | apply Kd.R_drewN | apply Kd.R_drew)); exact Kd.R_mono HO_17.out (fun _ hk => ⟨hk.1.1, ⟨hk.2, hk.1.2⟩⟩)⟩, ⟨by (try simp only [hl9_2]); (try simp only [hl11_3]); (try simp only [hl15_5]); (with_reducible repeat (first | apply Kd.R_alloc | apply Kd.R_drewN | apply Kd.R_drew)); exact Kd.R_mono HO_20.out (fun _ hk => ⟨hk.1.1, ⟨hk.2, hk.1.2⟩⟩)⟩, ⟨by repeat (first | (with_reducible first | exact HB.out | apply below_alloc | apply pw_below_drewN | apply below_drew1) | exact HB.out)⟩⟩
                       ·rw [if_neg c125] at H
                        exact absurd H (by simp)
                      ·rw [if_neg c124] at H
                       exact absurd H (by simp)
                     ·rw [if_neg c123] at H
                      have c123b0 : decide (x162_5 < (t205.length : Int)) = false := decide_eq_false c123
                      have c123d : decide (x162_5 < (x15_5.length : Int)) = false := by rw [← hl15_5]; exact c123b0
                      clear c123
                      have H' := Aside0.mk H
                      clear H
                      go_wp2
                      go_loopg [174] k5 (fun kq v174 w' => ∃ (x10_6 : List Int) (x174_6 : Int), v174 = .int .i64 x174_6 ∧ Aside0 (furlonglaw03_StripKeeps.l3 kq l1 x10_6 t209 t211 t214 t216 (t161.length : Int) x174_6 = some r) ∧ Aside0 (kq ≤ k5) ∧ Aside0 (Kd.R (Kd.int .u8) 5 w' w.heap.size (fun k_ => some k_ ≠ (v212 : Value).ownBlock ∧ some k_ ≠ (v217 : Value).ownBlock) (.slice Ao121 t161.length co121) x10_6) ∧ Aside0 (Kd.R (Kd.int .u8) 5 w' w.heap.size (fun k_ => some k_ ≠ ((.slice Ao121 t161.length co121) : Value).ownBlock ∧ some k_ ≠ (v217 : Value).ownBlock) v212 t209) ∧ Aside0 (Kd.R (Kd.int .u8) 5 w' w.heap.size (fun k_ => some k_ ≠ ((.slice Ao121 t161.length co121) : Value).ownBlock ∧ some k_ ≠ (v212 : Value).ownBlock) v217 t214) ∧ Aside0 (Below w.heap.size w w'))
                      case atStart => exact ⟨(t161), (0), (by first | rfl | (simp; done) | (simp [*]; done)), H', ⟨Nat.le_refl _⟩, ⟨by (try simp only [hl9_2]); (try simp only [hl11_3]); (try simp only [hl15_5]); (with_reducible repeat (first | apply Kd.R_alloc | apply Kd.R_drewN | apply Kd.R_drew)); exact Kd.R_mono HO_10.out (fun _ hk => ⟨hk.2.1, hk.2.2⟩)⟩, ⟨by (try simp only [hl9_2]); (try simp only [hl11_3]); (try simp only [hl15_5]); (with_reducible repeat (first | apply Kd.R_alloc | apply Kd.R_drewN | apply Kd.R_drew)); exact Kd.R_mono HO_17.out (fun _ hk => ⟨hk.1, hk.2.2⟩)⟩, ⟨by (try simp only [hl9_2]); (try simp only [hl11_3]); (try simp only [hl15_5]); (with_reducible repeat (first | apply Kd.R_alloc | apply Kd.R_drewN | apply Kd.R_drew)); exact Kd.R_mono HO_20.out (fun _ hk => ⟨hk.1, hk.2.2⟩)⟩, ⟨by repeat (first | (with_reducible first | exact HB.out | apply below_alloc | apply pw_below_drewN | apply below_drew1) | exact HB.out)⟩⟩
                      case round =>
                       clear H'
                       try clear c1
                       try clear p1
                       try clear q1
                       try clear hx1
                       try clear c2
                       try clear p2
                       try clear q2
                       try clear hx2
                       try clear c3
                       try clear q3
                       try clear c4
                       try clear c5
                       try clear c6
                       try clear p6
                       try clear c7
                       try clear p7
                       try clear q7
                       try clear hx7
                       try clear hf7
                       try clear c8
                       try clear c9
                       try clear c9b0
                       try clear c9b1
                       try clear q9
                       try clear c10
                       try clear c10b0
                       try clear c10b1
                       try clear q10
                       try clear c11
                       try clear q11
                       try clear c12
                       try clear c12b0
                       try clear p12
                       try clear q12
                       try clear hx12
                       try clear hf12
                       try clear c13
                       try clear c13b0
                       try clear c14
                       try clear c15
                       try clear c17
                       try clear p18
                       try clear q18
                       try clear hx18
                       try clear p21
                       try clear q21
                       try clear hx21
                       try clear c25
                       try clear c27
                       try clear q29
                       try clear q31
                       try clear c36
                       try clear c37
                       try clear c39
                       try clear c41
                       try clear p64
                       try clear c66
                       try clear c68
                       try clear c68b0
                       try clear c69
                       try clear c69b0
                       try clear c70
                       try clear c70b0
                       try clear p71
                       try clear q71
                       try clear hx71
                       try clear hf71
                       try clear c75
                       try clear c75b0
                       try clear c76
                       try clear c76b0
                       try clear c77
                       try clear c77b0
                       try clear p78
                       try clear q78
                       try clear hx78
                       try clear hf78
                       try clear c82
                       try clear c82b0
                       try clear c82b1
                       try clear c83
                       try clear c83b0
                       try clear c83b1
                       try clear c85
                       try clear c87
                       try clear c91
                       try clear q92
                       try clear q98
                       try clear q104
                       try clear q105
                       try clear c106
                       try clear c107
                       try clear c107b0
                       try clear c107b1
                       try clear c108
                       try clear c108b0
                       try clear c108b1
                       try clear c109
                       try clear c109b0
                       try clear c109b1
                       try clear c111
                       try clear q113
                       try clear q114
                       try clear c123
                       try clear c123b0
                       try clear c124
                       try clear c124b0
                       try clear c125
                       try clear c125b0
                       try clear p126
                       try clear q126
                       try clear hx126
                       try clear hf126
                       try clear hx126_0
                       try clear hx182_0
                       try clear hx184_0
                       try clear hx219_0
                       try clear hx71_0
                       try clear hx78_0
                       try clear p1
                       try clear p126
                       try clear p18
                       try clear p182
                       try clear p184
                       try clear p2
                       try clear p219
                       try clear p6
                       try clear p64
                       try clear p7
                       try clear p71
                       try clear p78
                       try clear q1
                       try clear q10
                       try clear q104
                       try clear q105
                       try clear q11
                       try clear q113
                       try clear q114
                       try clear q126
                       try clear q18
                       try clear q182
                       try clear q184
                       try clear q2
                       try clear q219
                       try clear q29
                       try clear q3
                       try clear q31
                       try clear q7
                       try clear q71
                       try clear q78
                       try clear q9
                       try clear q92
                       try clear q98
                       obtain ⟨x10_6, x174_6, rfl, HA, HK6, HO_10, HO_17, HO_20, HB⟩ := hrel
                       have hl10_6 := (Kd.R_reads' HO_10.out).1
                       rw [hl10_6] at HO_10
                       (try simp only [hl10_6])
                       (try simp only [hl10_6] at HO_17)
                       (try simp only [hl10_6] at HO_20)
                       cases gk with
                       | zero => exact absurd HA.out (by simp [furlonglaw03_StripKeeps.l3])
                       | succ k6 =>
                        have H := HA.out
                        clear HA
                        simp only [furlonglaw03_StripKeeps.l3] at H
                        by_cases c129 : x174_6 < (t161.length : Int)
                        ·rw [if_pos c129] at H
                         have c129b0 : decide (x174_6 < (t161.length : Int)) = true := decide_eq_true c129
                         clear c129
                         by_cases c130 : 0 ≤ x174_6
                         ·rw [if_pos c130] at H
                          have c130b0 : decide (0 ≤ x174_6) = true := decide_eq_true c130
                          clear c130
                          by_cases c131 : x174_6 < (x10_6.length : Int)
                          ·rw [if_pos c131] at H
                           have c131b0 : decide (x174_6 < (x10_6.length : Int)) = true := decide_eq_true c131
                           clear c131
                           obtain ⟨y222, hy222⟩ : ∃ y_ : List Int, y_ = (x10_6.set (x174_6 : Int).toNat (Go.bits .xor .u8 (rd x10_6 x174_6) 255)) := ⟨_, rfl⟩
                           replace H : (furlonglaw03_StripKeeps.l3 k6 l1 y222 t209 t211 t214 t216 (t161.length : Int) (wrap64 (x174_6 + 1))) = some r := by first | (rw [hy222]; with_reducible exact H) | (have H2_ := (Option.bind_some _ _).symm.trans H; rw [hy222]; with_reducible exact H2_) | (have H2_ := (Option.bind_some _ _).symm.trans H; with_reducible exact H2_) | with_reducible exact H | (rw [hy222]; exact H) | exact H
                           have Ny222 := Aside0.mk hy222
                           clear hy222
                           have H' := Aside0.mk H
                           clear H
                           have p221 : 0 ≤ (x174_6 : Int) := of_decide_eq_true (by first | (with_reducible assumption) | assumption)
                           have q221 : x174_6 < (x10_6.length : Int) := of_decide_eq_true (by first | (with_reducible assumption) | assumption)
                           obtain ⟨ad221, e221, hx221_0⟩ := Kd.at_int (Kd.R_reads' HO_10.out).2.2 x174_6 p221 q221
                           cases e221
                           replace p221 := eq_true p221
                           replace q221 := eq_true q221
                           have p132 : 0 ≤ (x174_6 : Int) := of_decide_eq_true (by first | (with_reducible assumption) | assumption)
                           have q132 : (x174_6 : Int) < ((x10_6.length : Int) : Int) := of_decide_eq_true (by first | (with_reducible assumption) | assumption)
                           obtain ⟨go132, co132, eo132, gb132, gl132, cl132, HG132⟩ := Kd.R_form HO_10.out (by omega)
                           (first | cases eo132 | (injection eo132 with ea_ en_ ec_; (first | subst ea_ | (injection ea_ with ea_; subst ea_)); subst ec_; clear en_))
                           have GB132 := Aside0.mk gb132
                           have GG132 := Aside0.mk HG132
                           clear gb132 gl132 HG132
                           (first | simp only [add_plain] at hx221_0 | skip)
                           obtain ⟨hx132_0, hf132_0⟩ := Kd.R_celln 0 HO_10.out (x174_6 : Int) p132 q132
                           replace p132 := eq_true p132
                           replace q132 := eq_true q132
                           have HP133 := Kd.R_putg HO_10.out (x174_6 : Int) (Go.bits .xor .u8 (rd x10_6 x174_6) 255)
                           go_wp2_with (first | ((with_reducible refine gate_store (t := 5) (p := 182) rfl ?_); refine store_event (t := 5) (p := 182) (v := ?vo_w134) (w1 := (wr.setCell ⟨go132, (x174_6 : Int).toNat, none⟩ (.int .u8 (Go.bits .xor .u8 (rd x10_6 x174_6) 255)))) ?hg ?ho ?hn ?hr ?_; (case ho => rfl); (case hg => rfl); (case hn => rfl); (case hr => first | (go_simp; done) | (go_simp; rfl)); intro w134 hw; have hg : wr.grownBy w134 (some go132) := (by rw [hw]; exact HP133.2); have hp_ : Kd.R (Kd.int .u8) 5 w134 w.heap.size (fun k_ => some k_ ≠ (v212 : Value).ownBlock ∧ some k_ ≠ (v217 : Value).ownBlock) (.slice (some ⟨go132, 0, none⟩) x10_6.length co121) y222 := (by rw [hw, Ny222.out]; exact HP133.1); clear HP133; have n0_ := Aside0.mk (hp_); have n1_ := Aside0.mk (Kd.R_after (v := (.slice (some ⟨go132, 0, none⟩) x10_6.length co121)) (v1 := (.slice (some ⟨go132, 0, none⟩) x10_6.length co121)) (ok := (fun k_ => some k_ ≠ (v217 : Value).ownBlock)) (by (with_reducible repeat (first | apply Kd.R_alloc | apply Kd.R_drewN | apply Kd.R_drew)); exact Kd.R_mono HO_17.out (fun _ hk => ⟨hk.2, hk.1⟩)) hg (.inl rfl)); have n2_ := Aside0.mk (Kd.R_after (v := (.slice (some ⟨go132, 0, none⟩) x10_6.length co121)) (v1 := (.slice (some ⟨go132, 0, none⟩) x10_6.length co121)) (ok := (fun k_ => some k_ ≠ (v212 : Value).ownBlock)) (by (with_reducible repeat (first | apply Kd.R_alloc | apply Kd.R_drewN | apply Kd.R_drew)); exact Kd.R_mono HO_20.out (fun _ hk => ⟨hk.2, hk.1⟩)) hg (.inl rfl)); have n3_ := Aside0.mk ((by rw [hw]; exact below_set (HB.out) GB132.out : Below w.heap.size w w134)); clear HO_10; clear HO_17; clear HO_20; clear HB; have HO_10 := n0_; have HO_17 := n1_; have HO_20 := n2_; have HB := n3_; clear n0_ n1_ n2_ n3_; clear hg hw hp_))
                           (try simp only [← hl10_6])
                           go_roundg k6
                           case measure => have := HJ15.out; have := HK2.out; have := HK3.out; have := HJ80.out; have := HK5.out; have := HK6.out; omega
                           case rel => exact ⟨(y222), (wrap64 (x174_6 + 1)), (by first | rfl | (simp; done) | (simp [*]; done)), H', ⟨by have := HJ15.out; have := HK2.out; have := HK3.out; have := HJ80.out; have := HK5.out; have := HK6.out; omega⟩, ⟨by (try simp only [hl9_2]); (try simp only [hl11_3]); (try simp only [hl15_5]); (try simp only [hl10_6]); (with_reducible repeat (first | apply Kd.R_alloc | apply Kd.R_drewN | apply Kd.R_drew)); exact HO_10.out⟩, ⟨by (try simp only [hl9_2]); (try simp only [hl11_3]); (try simp only [hl15_5]); (try simp only [hl10_6]); (with_reducible repeat (first | apply Kd.R_alloc | apply Kd.R_drewN | apply Kd.R_drew)); exact Kd.R_mono HO_17.out (fun _ hk => ⟨hk.2, hk.1⟩)⟩, ⟨by (try simp only [hl9_2]); (try simp only [hl11_3]); (try simp only [hl15_5]); (try simp only [hl10_6]); (with_reducible repeat (first | apply Kd.R_alloc | apply Kd.R_drewN | apply Kd.R_drew)); exact Kd.R_mono HO_20.out (fun _ hk => ⟨hk.2, hk.1⟩)⟩, ⟨by repeat (first | (with_reducible first | exact HB.out | apply below_alloc | apply pw_below_drewN | apply below_drew1) | exact HB.out)⟩⟩
                          ·rw [if_neg c131] at H
                           exact absurd H (by simp)
                         ·rw [if_neg c130] at H
                          exact absurd H (by simp)
                        ·rw [if_neg c129] at H
                         have c129b0 : decide (x174_6 < (t161.length : Int)) = false := decide_eq_false c129
                         have c129d : decide (x174_6 < (x10_6.length : Int)) = false := by rw [← hl10_6]; exact c129b0
                         clear c129
                         by_cases c135 : t211 = 0
                         ·rw [if_pos c135] at H
                          have c135b0 : (t211 == 0) = true := beq_iff_eq.mpr c135
                          have c135b1 : (t211 != 0) = false := bne_eq_false_iff_eq.mpr c135
                          clear c135
                          by_cases c136 : t216 = 0
                          ·rw [if_pos c136] at H
                           have c136b0 : (t216 == 0) = true := beq_iff_eq.mpr c136
                           have c136b1 : (t216 != 0) = false := bne_eq_false_iff_eq.mpr c136
                           clear c136
                           replace H := Option.bind_eq_some_iff.mp H
                           obtain ⟨t223, A1370, H⟩ := H
                           replace H : (if t223 = true then ((furlongref01_Bytes.f t214 l1).bind fun t224 => (some t224)) else (some false)) = some r := H
                           have A137 := Aside0.mk A1370
                           clear A1370
                           by_cases c138 : t223 = true
                           ·subst c138
                            have H1 : ((furlongref01_Bytes.f t214 l1).bind fun t224 => (some t224)) = some r := by rw [if_pos rfl] at H; exact H
                            clear H
                            have H := H1
                            clear H1
                            replace H := Option.bind_eq_some_iff.mp H
                            obtain ⟨t224, A1390, H⟩ := H
                            replace H : (some t224) = some r := H
                            have A139 := Aside0.mk A1390
                            clear A1390
                            obtain rfl := Option.some.inj H
                            obtain ⟨Ao140, co140, eo140⟩ := Kd.R_slice HO_17.out
                            subst eo140
                            go_wp2_with (first | (go_at_call 14; (with_reducible refine (furlongref01_Bytes.calls _ _ t209 _ _ l1 true _ ?side1 ?side2 ?side3 ?side4 A137.out).mono ?_); (case side1 => repeat (first | exact (Kd.R_reads' HO_17.out).2.2 | (with_reducible refine Kd.C_alloc ?_ _) | (with_reducible refine Kd.C_drewN ?_ _) | (with_reducible refine Kd.C_drew ?_))); (case side2 => exact (Kd.R_reads' HO_17.out).2.1); (case side3 => repeat (first | exact (Kd.C_below HR1.out HB.out) | (with_reducible refine Kd.C_alloc ?_ _) | (with_reducible refine Kd.C_drewN ?_ _) | (with_reducible refine Kd.C_drew ?_))); (case side4 => exact HC1.out); rintro e w' ⟨rfl, ⟨nd, rfl⟩⟩; obtain ⟨Ao141, co141, eo141⟩ := Kd.R_slice HO_20.out; subst eo141) | (go_at_call 14; (with_reducible refine (furlongref01_Bytes.calls _ _ t214 _ _ l1 t224 _ ?side1 ?side2 ?side3 ?side4 A139.out).mono ?_); (case side1 => repeat (first | exact (Kd.R_reads' HO_20.out).2.2 | (with_reducible refine Kd.C_alloc ?_ _) | (with_reducible refine Kd.C_drewN ?_ _) | (with_reducible refine Kd.C_drew ?_))); (case side2 => exact (Kd.R_reads' HO_20.out).2.1); (case side3 => repeat (first | exact (Kd.C_below HR1.out (by repeat (first | (with_reducible first | exact HB.out | apply below_alloc | apply pw_below_drewN | apply below_drew1) | exact HB.out))) | (with_reducible refine Kd.C_alloc ?_ _) | (with_reducible refine Kd.C_drewN ?_ _) | (with_reducible refine Kd.C_drew ?_))); (case side4 => exact HC1.out); rintro e w' ⟨rfl, ⟨nd, rfl⟩⟩))
                            go_ret
                            exact ⟨by first | rfl | (simp [errW_none, errW_some] <;> rfl) | (simp [*, errW_none, errW_some] <;> rfl), by repeat (first | (with_reducible first | exact HB.out | apply below_alloc | apply pw_below_drewN | apply below_drew1) | exact HB.out)⟩
                           ·replace c138 := Bool.eq_false_iff.mpr c138
                            subst c138
                            have H1 : (some false) = some r := by rw [if_neg (show ¬ (false = true) by decide)] at H; exact H
                            clear H
                            have H := H1
                            clear H1
                            obtain rfl := Option.some.inj H
                            obtain ⟨Ao142, co142, eo142⟩ := Kd.R_slice HO_17.out
                            subst eo142
                            go_wp2_with (first | (go_at_call 14; (with_reducible refine (furlongref01_Bytes.calls _ _ t209 _ _ l1 false _ ?side1 ?side2 ?side3 ?side4 A137.out).mono ?_); (case side1 => repeat (first | exact (Kd.R_reads' HO_17.out).2.2 | (with_reducible refine Kd.C_alloc ?_ _) | (with_reducible refine Kd.C_drewN ?_ _) | (with_reducible refine Kd.C_drew ?_))); (case side2 => exact (Kd.R_reads' HO_17.out).2.1); (case side3 => repeat (first | exact (Kd.C_below HR1.out HB.out) | (with_reducible refine Kd.C_alloc ?_ _) | (with_reducible refine Kd.C_drewN ?_ _) | (with_reducible refine Kd.C_drew ?_))); (case side4 => exact HC1.out); rintro e w' ⟨rfl, ⟨nd, rfl⟩⟩))
                            go_ret
                            exact ⟨by first | rfl | (simp [errW_none, errW_some] <;> rfl) | (simp [*, errW_none, errW_some] <;> rfl), by repeat (first | (with_reducible first | exact HB.out | apply below_alloc | apply pw_below_drewN | apply below_drew1) | exact HB.out)⟩
                          ·rw [if_neg c136] at H
                           have c136b0 : (t216 == 0) = false := beq_eq_false_iff_ne.mpr c136
                           have c136b1 : (t216 != 0) = true := bne_iff_ne.mpr c136
                           obtain rfl := Option.some.inj H
                           go_wp2
                           go_ret
                           exact ⟨by first | rfl | (simp [errW_none, errW_some] <;> rfl) | (simp [*, errW_none, errW_some] <;> rfl), by repeat (first | (with_reducible first | exact HB.out | apply below_alloc | apply pw_below_drewN | apply below_drew1) | exact HB.out)⟩
                         ·rw [if_neg c135] at H
                          have c135b0 : (t211 == 0) = false := beq_eq_false_iff_ne.mpr c135
                          have c135b1 : (t211 != 0) = true := bne_iff_ne.mpr c135
                          obtain rfl := Option.some.inj H
                          go_wp2
                          go_ret
                          exact ⟨by first | rfl | (simp [errW_none, errW_some] <;> rfl) | (simp [*, errW_none, errW_some] <;> rfl), by repeat (first | (with_reducible first | exact HB.out | apply below_alloc | apply pw_below_drewN | apply below_drew1) | exact HB.out)⟩
      ·rw [if_neg c10] at H
       exact absurd H (by simp)
     ·rw [if_neg c9] at H
      exact absurd H (by simp)
    ·rw [if_neg c8] at H
     exact absurd H (by simp)
   ·rw [if_neg c7] at H
    exact absurd H (by simp)
  ·rw [if_neg c6] at H
   exact absurd H (by simp)
 ·replace c5 := Bool.eq_false_iff.mpr c5
  subst c5
  have H1 : (some false) = some r := by rw [if_neg (show ¬ (false = true) by decide)] at H; exact H
  clear H
  have H := H1
  clear H1
  obtain rfl := Option.some.inj H
  go_enter Try.func8, Try.ntmps8
  go_wp2_with (first | ((with_reducible refine gate_callee (f := 11) rfl ?_); refine goesL_ (some 25) rfl rfl Try.func11 (by kernel_rfl) rfl #[] rfl (by (try simp only [List.map_toArray, List.map_cons, List.map_nil]); first | done | rfl | (simp only [List.length_drop, List.length_take]; rfl)) ?_; (with_reducible refine (furlonglaw03_awake.calls  false _ A4.out).mono ?_); rintro e w143 ⟨rfl, hb⟩; refine ⟨_, rfl, ?_⟩; have n0_ := Aside0.mk (below_step (by repeat (first | (with_reducible first | exact HB.out | apply below_alloc | apply pw_below_drewN | apply below_drew1) | exact HB.out)) hb); clear HB; have HB := n0_; clear n0_; (try clear hb); (try clear hb2); (try clear hk); (try clear hi)))
  go_ret
  exact ⟨by first | rfl | (simp [errW_none, errW_some] <;> rfl) | (simp [*, errW_none, errW_some] <;> rfl), by repeat (first | (with_reducible first | exact HB.out | apply below_alloc | apply pw_below_drewN | apply below_drew1) | exact HB.out)⟩

/-- THE ONE PURE STATEMENT of furlonglaw03_StripKeeps: yours. -/
def furlonglaw03_StripKeeps.Pure : Prop := ∀ (l0 : List Int) (l1 : List Int) (a2 : Int), l0.length ≤ maxLen → l0.length * 1 ≤ 140737488351232 → (∀ x ∈ l0, (Lit.int .u8 x).wf = true) → l1.length ≤ maxLen → l1.length * 1 ≤ 140737488351232 → (∀ x ∈ l1, (Lit.int .u8 x).wf = true) → (Lit.int .u64 a2).wf = true → ∃ k, furlonglaw03_StripKeeps.f k l0 l1 a2 = some true
theorem furlonglaw03_StripKeeps.walk (P : furlonglaw03_StripKeeps.Pure) (a0 : Option Addr) (len0 cap0 : Nat) (z0 : List Int) (a1 : Option Addr) (len1 cap1 : Nat) (z1 : List Int) (a2 : Int) (w : World) (w0 : (a0 = none ∧ len0 = 0 ∧ cap0 = 0 ∧ z0 = []) ∨ ∃ x, a0 = some x ∧ len0 ≤ cap0 ∧ cap0 ≤ maxLen ∧ z0.length = cap0 ∧ (∀ i, i < z0.length → w.cell? (x.add i) = some (.int .u8 (z0.getD i 0))) ∧ ∀ n ∈ z0, (Lit.int .u8 n).wf = true) (y0 : len0 * 1 ≤ 140737488351232) (w1 : (a1 = none ∧ len1 = 0 ∧ cap1 = 0 ∧ z1 = []) ∨ ∃ x, a1 = some x ∧ len1 ≤ cap1 ∧ cap1 ≤ maxLen ∧ z1.length = cap1 ∧ (∀ i, i < z1.length → w.cell? (x.add i) = some (.int .u8 (z1.getD i 0))) ∧ ∀ n ∈ z1, (Lit.int .u8 n).wf = true) (y1 : len1 * 1 ≤ 140737488351232) (w2 : (Lit.int .u64 a2).wf = true) :
  Calls Try.prog 8 #[.slice a0 len0 cap0, .slice a1 len1 cap1, .int .u64 a2] w fun e w' => e = .returned (.bool true) ∧ Below w.heap.size w w' := by
 obtain ⟨l0, rfl, hr0, hm0, hw0, hc0⟩ := ReadsInt.ofRowC w0
 obtain ⟨l1, rfl, hr1, hm1, hw1, hc1⟩ := ReadsInt.ofRowC w1
 obtain ⟨k, h⟩ := P l0 l1 a2 hm0 y0 hw0 hm1 y1 hw1 w2
 refine (furlonglaw03_StripKeeps.calls k _ _ l0 _ _ l1 a2 true w (Kd.C_of_reads (d := (0 : Int)) (h1 := fun _ => rfl) hr0) hc0 (Kd.C_of_reads (d := (0 : Int)) (h1 := fun _ => rfl) hr1) hc1 h).mono ?_
 rintro e w' ⟨rfl, hd⟩
 exact ⟨rfl, hd⟩

end Go.Proofs.Ytijcjllojhpioaa.PStripKeeps
