/- The walk of DiskScripts. -/
import Derived.Test.YtkmodecmfjepkaaScr14
namespace Go.Fur
open Go Go.RowKit Go.Proofs
set_option linter.unusedVariables false
set_option linter.unusedSimpArgs false
theorem bytes_build0 : ∀ W : World, (Instr.buildSlice 34 0 #[]).run Try.prog W = .ok (.slice (some ⟨W.heap.size, 0, none⟩) 0 0) (W.alloc (.cells #[] 5)) := fun W => by kernel_rfl
def clip (n : Int) : Int := if 2000 < n ∧ n ≤ 65536 then 2000 else n
def Scr (W : World) (pa ba rb : Nat) (len : Nat) (i : Value) (wr : World) : Prop := ∃ k : Nat, k ≤ len ∧ i = .int .i64 k ∧ ∃ d r lv cs, ScrAt W pa ba rb [] d r lv cs wr ∧ Sim d r ∧ d.loose.length ≤ k
/-- What stands behind the switch, whichever call was made. -/
def JoinR (W : World) (pa ba rb wo g k base cap : Nat) (o1 o2 : Int) (o3 : SlV Int) (a a' : Act) (w' : World) : Prop := ∃ (v80 v81 v82 v83 v84 v85 v86 v87 v88 v89 v90 v91 v92 v93 v94 v95 v96 v97 v98 v99 v100 v101 v102 v103 v104 v105 v106 v107 v108 v109 v110 v111 v112 v113 v114 v115 v116 : Value) (er : Int) (d8 : D) (r8 : Rf) (lv6 : Value) (cs7 : List Value), ScrAt W pa ba rb [wo, g] d8 r8 lv6 cs7 w' ∧ Sim d8 r8 ∧ d8.loose.length ≤ k + 1 ∧ Blk w' wo 36 [.int .i64 o1, .int .i64 o2, o3.val] ∧ Own w' base 5 1 (.slice (some ⟨g, 0, none⟩) (o3.xs.length + 1) cap) (o3.xs.length + 1) (bv (o3.xs ++ [71])) ∧ a' = { tmps := (a.tmps.toList.take 11 ++ .int .i64 er :: .int .i64 er :: ((a.tmps.toList.drop 13).take 67 ++ v80 :: v81 :: v82 :: v83 :: v84 :: v85 :: v86 :: v87 :: v88 :: v89 :: v90 :: v91 :: v92 :: v93 :: v94 :: v95 :: v96 :: v97 :: v98 :: v99 :: v100 :: v101 :: v102 :: v103 :: v104 :: v105 :: v106 :: v107 :: v108 :: v109 :: v110 :: v111 :: v112 :: v113 :: v114 :: v115 :: v116 :: a.tmps.toList.drop 117)).toArray, defers := a.defers }
set_option maxRecDepth 100000 in
set_option maxHeartbeats 4000000 in
theorem DiskScripts_walk (W : World) (n0 : Int) (_ : rInt.ok W n0) (ops : SlV Op14) (hops : rOps.ok W ops) :
    Calls Try.prog 3 #[.int .i64 n0, ops.val] W fun e w' => e = .returned (.bool true) ∧ Below W.heap.size W w' := by
  simp only [SlV.val]
  go_enter Try.func3, Try.ntmps3
  go_wp2_with fail
  refine (awake_calls W).mono ?_
  rintro e w1 ⟨rfl, F1⟩
  by_cases hbad : n0 < 1 ∨ 65536 < n0
  · rcases hbad with hb | hb
    · have hb2 : ¬ 2000 < n0 := by omega
      go_wp2_with fail
      refine (new_arg w1 n0 (.inl hb)).mono ?_
      rintro e w2 ⟨rfl, rfl⟩
      go_wp2_with fail
      refine (refNew_arg w1 n0 (.inl hb)).mono ?_
      rintro e w2 ⟨v, rfl, ⟨cs, hcl, rfl, hc1⟩, F2⟩
      have HC1 := Lib.hid hc1
      have HCL := Lib.hid hcl
      have hs1 := F1.size
      have hs2 := F2.size
      clear hc1 hcl
      by_cases hlen : (200 : Int) < (ops.xs.length : Int)
      · go_wp2_with (first
          | (refine wpList_allocZ rfl 31 rfl _ ref_zero ?_; intro w4 B4 F4 S4)
          | (refine wpList_storeB rfl 31 _ _ rfl w2.heap.size 0 cs (by rfl) (by rfl) 31 _ B4 (by rw [HCL.out]; simp) (by rw [HCL.out]; exact ref_size) HC1.out ?_; intro w5 B5 F5 S5))
        go_ret
        exact ⟨rfl, (((F1.trans0 F2).trans0 F4).trans F5 (fun k hk hlt => by simp at hk; omega)).below (Nat.le_refl _) (by simp)⟩
      · go_wp2_with (first
          | (refine wpList_allocZ rfl 31 rfl _ ref_zero ?_; intro w4 B4 F4 S4)
          | (refine wpList_storeB rfl 31 _ _ rfl w2.heap.size 0 cs (by rfl) (by rfl) 31 _ B4 (by rw [HCL.out]; simp) (by rw [HCL.out]; exact ref_size) HC1.out ?_; intro w5 B5 F5 S5))
        go_ret
        exact ⟨rfl, (((F1.trans0 F2).trans0 F4).trans F5 (fun k hk hlt => by simp at hk; omega)).below (Nat.le_refl _) (by simp)⟩
    · have hb2 : 2000 < n0 := by omega
      have hb3 : ¬ n0 ≤ 65536 := by omega
      go_wp2_with fail
      refine (new_arg w1 n0 (.inr hb)).mono ?_
      rintro e w2 ⟨rfl, rfl⟩
      go_wp2_with fail
      refine (refNew_arg w1 n0 (.inr hb)).mono ?_
      rintro e w2 ⟨v, rfl, ⟨cs, hcl, rfl, hc1⟩, F2⟩
      have HC1 := Lib.hid hc1
      have HCL := Lib.hid hcl
      have hs1 := F1.size
      have hs2 := F2.size
      clear hc1 hcl
      by_cases hlen : (200 : Int) < (ops.xs.length : Int)
      · go_wp2_with (first
          | (refine wpList_allocZ rfl 31 rfl _ ref_zero ?_; intro w4 B4 F4 S4)
          | (refine wpList_storeB rfl 31 _ _ rfl w2.heap.size 0 cs (by rfl) (by rfl) 31 _ B4 (by rw [HCL.out]; simp) (by rw [HCL.out]; exact ref_size) HC1.out ?_; intro w5 B5 F5 S5))
        go_ret
        exact ⟨rfl, (((F1.trans0 F2).trans0 F4).trans F5 (fun k hk hlt => by simp at hk; omega)).below (Nat.le_refl _) (by simp)⟩
      · go_wp2_with (first
          | (refine wpList_allocZ rfl 31 rfl _ ref_zero ?_; intro w4 B4 F4 S4)
          | (refine wpList_storeB rfl 31 _ _ rfl w2.heap.size 0 cs (by rfl) (by rfl) 31 _ B4 (by rw [HCL.out]; simp) (by rw [HCL.out]; exact ref_size) HC1.out ?_; intro w5 B5 F5 S5))
        go_ret
        exact ⟨rfl, (((F1.trans0 F2).trans0 F4).trans F5 (fun k hk hlt => by simp at hk; omega)).below (Nat.le_refl _) (by simp)⟩
  · obtain ⟨n1, hn1⟩ := Int.eq_ofNat_of_zero_le (show 0 ≤ n0 by omega)
    subst hn1
    by_cases hbig : 2000 < (n1 : Int)
    · have h2 : (n1 : Int) ≤ 65536 := by omega
      go_wp2_with fail
      refine (new_all w1 2000 (by omega) (by omega)).mono ?_
      rintro e w2 ⟨pa, ba, rfl, D2, F2⟩
      go_wp2_with fail
      refine (refNew_calls w2 (fun k => k ∈ [pa, ba]) (fun k hk => D2.lt k (by simpa using hk)) 2000 (by omega) (by omega)).mono ?_
      rintro e w3 ⟨cs, rfl, R3, F3⟩
      have D3 := D2.fr0 F3
      obtain ⟨na, sa, la, nc, sc, lc, m, hcs, _, _⟩ := R3.cells
      have hcl : cs.length = 3 := by rw [hcs]; rfl
      have hc1 : ∀ v ∈ cs, v.oneCell' = true := by rw [hcs]; simp [Value.oneCell']
      have HC1 := Lib.hid hc1
      have HCL := Lib.hid hcl
      clear hcs hc1 hcl
      by_cases hlen : 200 < ops.xs.length
      · have hlen2 : (200 : Int) < (ops.xs.length : Int) := by omega
        go_wp2_with (first
          | (refine wpList_allocZ rfl 31 rfl _ ref_zero ?_; intro w4 B4 F4 S4)
          | (refine wpList_storeB rfl 31 _ _ rfl w3.heap.size 0 cs (by rfl) (by rfl) 31 _ B4 (by rw [HCL.out]; simp) (by rw [HCL.out]; exact ref_size) HC1.out ?_; intro w5 B5 F5 S5))
        go_ret
        exact ⟨rfl, ((((F1.trans0 F2).trans0 F3).trans0 F4).trans F5 (fun k hk hlt => by simp at hk; have := F1.size; have := F2.size; have := F3.size; omega)).below (Nat.le_refl _) (by simp)⟩
      · have hlen2 : ¬ (200 : Int) < (ops.xs.length : Int) := by omega
        go_wp2_with (first
          | (refine wpList_allocZ rfl 31 rfl _ ref_zero ?_; intro w4 B4 F4 S4)
          | (refine wpList_storeB rfl 31 _ _ rfl w3.heap.size 0 cs (by rfl) (by rfl) 31 _ B4 (by rw [HCL.out]; simp) (by rw [HCL.out]; exact ref_size) HC1.out ?_; intro w5 B5 F5 S5))
        have R0 : Scr W pa ba w3.heap.size ops.xs.length (.int .i64 (0 : Nat)) w5 := by
          have e5 : splice [Value.slice none 0 0, .slice none 0 0, .slice none 0 0] 0 cs = cs := splice_all _ _ (by rw [HCL.out]; rfl)
          rw [e5] at B5
          have hs1 := F1.size
          have hs2 := F2.size
          have hs3 := F3.size
          have hlt3 := D3.lt
          have f45 : Fr [w3.heap.size] w3 w5 := (F4.ext (S := [w3.heap.size])).trans1 F5
          refine ⟨0, Nat.zero_le _, rfl, D.new 2000, Rf.new 2000, .slice none 0 0, cs, ⟨?_, D.new_byt _, B5, ?_, ?_, ?_, ?_, ?_⟩, Sim.new _, Nat.le_refl _⟩
          · exact (D3.wbase (by omega)).fr f45 (fun hm => by have := hlt3 pa (by simp); simp at hm; omega) (fun hm => by have := hlt3 ba (by simp); simp at hm; omega) (fun k hk => by simp at hk)
          · refine R3.step f45 (fun k hk => by simp at hk; omega) (fun k hk => ?_)
            rcases hk with hk | hk | hk
            · simp at hk
            · right
              omega
            · left
              simpa using hk
          · intro hm
            have := hlt3 _ hm
            omega
          · omega
          · intro g hg
            simp at hg
          · exact ((F1.trans0 F2).trans0 F3).trans f45 (fun k hk hlt => by simp at hk; omega)
        have HR0 := Lib.hid R0
        clear R0 B5 B4 F5 S5 S4 F4 R3 D3 D2 F3 F2 F1 HC1 HCL
        go_wp2_with fail
        go_loopw [66] (fun i wr => Scr W pa ba w3.heap.size ops.xs.length i wr) (fun i _ => ops.xs.length - (intOf i).toNat)
        case atStart => exact HR0.out
        case round =>
          obtain ⟨k, hk, rfl, d, r, lv, cs, hS, hSim, hL⟩ := hrel
          by_cases hlt : k < ops.xs.length
          · obtain ⟨o, ho⟩ : ∃ o, ops.xs[k]? = some o := ⟨_, List.getElem?_eq_getElem hlt⟩
            obtain ⟨b, off, ha, hr, hbl, hp⟩ := ops_at hops k o ho
            obtain ⟨pbt, pr, ple, pcap⟩ := bytes_ok hp
            obtain ⟨o1, o2, o3, o4⟩ := o
            simp only at hr pbt pr ple pcap hp
            have hr2 := rangeAt_fr hr hS.fr (by simp)
            have i0 : (0 : Int) ≤ (k : Int) := by omega
            have i1 : (k : Int) < (ops.xs.length : Int) := by omega
            rw [ha]
            have HR := Lib.hid hr2
            have HS := Lib.hid hS
            have HP := Lib.hid pr
            have HY := Lib.hid pbt
            clear hr hr2 hS pr ha ho pbt hp
            have HL := Lib.hid hL
            have HSim := Lib.hid hSim
            clear hL hSim
            go_wp2_with (first
              | refine wpList_load_mid rfl 36 _ rfl b (off + k * 3) rfl [.int .i64 o1, .int .i64 o2, o3.val] _ HR.out Try.underlying36 rfl (by exact op_size) ?_
              | (refine wpList_allocZ rfl 36 rfl _ op_zero ?_; intro w3' B3 F3 S3)
              | (refine wpList_storeB rfl 36 _ _ rfl wr.heap.size 0 [.int .i64 o1, .int .i64 o2, o3.val] (by rfl) (by rfl) 36 _ B3 (by simp) (by exact op_size) (by simp [SlV.val, Value.oneCell']) ?_; intro w4 B4 F4 S4))
            have G4 : Fr [] wr w4 := F3.trans F4 (fun x hx hlt => by simp at hx; omega)
            have T4 := HS.out.calm G4
            have R4 : Rd w4 o3.a (bv o3.xs) := (HP.out.fr0 HS.out.fr).fr0 G4
            have hsz4 : w4.heap.size = wr.heap.size + 1 := by omega
            have d4 : ∀ w', Fr [] w4 w' → w'.cell? ⟨wr.heap.size, 2, none⟩ = some (.slice o3.a o3.xs.length o3.cap) := fun w' f => (B4.fr f (by simp)).cellAt rfl
            have HB4 := Lib.hid B4
            have HG4 := Lib.hid G4
            have HT4 := Lib.hid T4
            have HR4 := Lib.hid R4
            have HZ4 := Lib.hid hsz4
            clear B4 G4 T4 R4 hsz4 F4 F3 S4 S3 B3
            refine wp_region_join (Fr [] w4) (.one 1 <| .one 2 <| .one 6 <| .one 7 <| .one 8 <| .two 0 (.two 3 (.one 4 <| .one 5 <| .one 9 <| .one 10 .done) 4 (.one 3 <| .one 5 <| .one 9 <| .one 10 .done)) 4 (.one 0 <| .one 3 <| .one 5 <| .one 9 <| .one 10 .done)) [] [0, 3, 4, 5] [2, 7]
              (fun a a' w' => ∃ (v70 v73 v74 v75 : Value) (g cap : Nat), Fr [] w4 w' ∧ Own w' w4.heap.size 5 1 (.slice (some ⟨g, 0, none⟩) (o3.xs.length + 1) cap) (o3.xs.length + 1) (bv (o3.xs ++ [71])) ∧ o3.xs.length + 1 ≤ cap ∧ cap ≤ maxLen ∧
                a' = (((((((((((a.put (some 71) (.pointer (some ⟨wr.heap.size, 2, none⟩))).put (some 72) (.slice o3.a o3.xs.length o3.cap)).put (some 76) (.pointer (some ⟨wr.heap.size, 2, none⟩))).put (some 77) (.slice o3.a o3.xs.length o3.cap)).put (some 78) (.int .i64 o3.xs.length)).put (some 70) v70).put (some 73) v73).put (some 74) v74).put (some 75) v75).put (some 79) (.slice (some ⟨g, 0, none⟩) o3.xs.length cap)).put (some 13) (.slice (some ⟨g, 0, none⟩) o3.xs.length cap)))
              mixed (by kernel_rfl) ?_ ?_
            · have hS : Fr [] w4 w4.drew := (Fr.refl _ _).drew
              repeat (first | (refine wpT_free ?_ (by rfl) (by rfl) (fun w' => ?_) ?_; rotate_left; (simp only [pickN]; go_simp; rfl); simp only [pickN, Act.put, List.setIfInBounds_toArray, List.set_cons_zero, List.set_cons_succ]) | (refine wpT_take ?_ hS (by rfl) (by rfl) (fun w' hw' => ?_) ?_; rotate_left; (simp only [pickN]; go_simp; rfl); simp only [pickN, Act.put, List.setIfInBounds_toArray, List.set_cons_zero, List.set_cons_succ]))
              have hz : w4.heap.size ≤ w4.drew.heap.size := Nat.le_refl _
              have hR := HR4.out.fr0 hS
              have hmx : o3.xs.length + 1 ≤ 140737488355328 := by omega
              refine wpT_two ?_ ?_
              · try simp only [pickN]
                refine wpList_build0 rfl 34 5 1 rfl bytes_build0 ?_
                intro w5 O5 F5 S5
                have F45 : Fr [] w4 w5 := hS.trans0 F5
                have z5 := F5.size
                refine effT_keep F45 ?_
                simp only [pickN, Act.put, List.setIfInBounds_toArray, List.set_cons_zero, List.set_cons_succ]
                refine wpT_two ?_ ?_
                · try simp only [pickN]
                  refine wpList_appB rfl _ _ 34 34 rfl _ 5 5 .u8 1 Try.underlying34 Try.underlying34 info_byte _ 0 [] (by rfl) O5 o3.a o3.xs.length o3.cap (bv o3.xs) (by rfl) (hR.fr0 F5) (by simp) (bv_one _) (by simp only [maxLen]; omega) (by omega) (by omega) ?_
                  intro v6 w6 O6 F6 K6 _
                  have F46 : Fr [] w4 w6 := F45.trans F6 (fun x hx hlt => by simp at hx; omega)
                  have z6 := F6.size
                  refine effT_keep F46 ?_
                  simp only [pickN, Act.put, List.setIfInBounds_toArray, List.set_cons_zero, List.set_cons_succ]
                  refine wpT_eff (by rfl) ?_
                  try simp only [pickN]
                  refine wpList_buildSlice1 rfl 34 5 _ rfl [.int .u8 0] 1 1 Try.underlying34 info_byteZ (by simp) (by omega) (by omega) _ [.int .u8 71] (by rfl) (by rfl) (by simp) ?_
                  intro w7 B7 F7 S7
                  have F47 : Fr [] w4 w7 := F46.trans0 F7
                  have z7 := F7.size
                  refine effT_keep F47 ?_
                  simp only [pickN, Act.put, List.setIfInBounds_toArray, List.set_cons_zero, List.set_cons_succ]
                  refine wpT_eff (by rfl) ?_
                  try simp only [pickN]
                  refine wpList_appB rfl _ _ 34 34 rfl _ 5 5 .u8 1 Try.underlying34 Try.underlying34 info_byte _ (0 + o3.xs.length) ([] ++ bv o3.xs) (by rfl) (O6.fr0 F7) _ 1 1 [.int .u8 71] (by rfl) (by simpa using B7.rd0 1) (by simp) (by simp [Value.oneCell']) (by simp only [maxLen]; omega) (by omega) (by omega) ?_
                  intro v8 w8 O8 F8 K8 _
                  have hvb : ∀ x ∈ ob v6, w4.heap.size ≤ x := fun x hx => Nat.le_trans (by omega) (O6.lt hx).1
                  have F48 : Fr [] w4 w8 := F47.trans F8 (fun x hx hlt => by have := hvb x hx; omega)
                  have e8 : [] ++ bv o3.xs ++ [Value.int .u8 71] = bv (o3.xs ++ [71]) := by simp [bv_append]; rfl
                  simp only [Nat.zero_add] at O8
                  rw [e8] at O8
                  obtain ⟨g, cap, cur, hv8, hg, Bg, e1, e2, e3, e4⟩ := O8.blk (by omega)
                  subst hv8
                  have q0 : (0 : Int) ≤ (o3.xs.length : Int) := by omega
                  have q1 : (o3.xs.length : Int) ≤ (cap : Int) := by omega
                  have O8' := O8.base (base' := w4.heap.size) (by omega)
                  have HO8 := Lib.hid O8'
                  have HF48 := Lib.hid F48
                  clear O8 O8' e8 F48 e4 e3 Bg
                  refine effT_keep HF48.out ?_
                  simp only [pickN, Act.put, List.setIfInBounds_toArray, List.set_cons_zero, List.set_cons_succ]
                  repeat (refine wpT_free ?_ (by rfl) (by rfl) (fun w' => ?_) ?_; rotate_left; (simp only [pickN]; go_simp; rfl); simp only [pickN, Act.put, List.setIfInBounds_toArray, List.set_cons_zero, List.set_cons_succ])
                  exact wpT_done ⟨rfl, _, _, _, _, g, cap, HF48.out, HO8.out, e1, e2, rfl⟩
                · try simp only [pickN]
                  refine wpList_buildSlice1 rfl 34 5 _ rfl [.int .u8 0] 1 1 Try.underlying34 info_byteZ (by simp) (by omega) (by omega) _ [.int .u8 71] (by rfl) (by rfl) (by simp) ?_
                  intro w6 B6 F6 S6
                  have F46 : Fr [] w4 w6 := F45.trans0 F6
                  have z6 := F6.size
                  refine effT_keep F46 ?_
                  simp only [pickN, Act.put, List.setIfInBounds_toArray, List.set_cons_zero, List.set_cons_succ]
                  refine wpT_eff (by rfl) ?_
                  try simp only [pickN]
                  refine wpList_appB rfl _ _ 34 34 rfl _ 5 5 .u8 1 Try.underlying34 Try.underlying34 info_byte _ 0 [] (by rfl) (O5.fr0 F6) o3.a o3.xs.length o3.cap (bv o3.xs) (by rfl) ((hR.fr0 F5).fr0 F6) (by simp) (bv_one _) (by simp only [maxLen]; omega) (by omega) (by omega) ?_
                  intro v7 w7 O7 F7 K7 _
                  have F47 : Fr [] w4 w7 := F46.trans F7 (fun x hx hlt => by simp at hx; omega)
                  have z7 := F7.size
                  refine effT_keep F47 ?_
                  simp only [pickN, Act.put, List.setIfInBounds_toArray, List.set_cons_zero, List.set_cons_succ]
                  refine wpT_eff (by rfl) ?_
                  have B7 := B6.fr F7 (by simp; omega)
                  try simp only [pickN]
                  refine wpList_appB rfl _ _ 34 34 rfl _ 5 5 .u8 1 Try.underlying34 Try.underlying34 info_byte _ (0 + o3.xs.length) ([] ++ bv o3.xs) (by rfl) O7 _ 1 1 [.int .u8 71] (by rfl) (by simpa using B7.rd0 1) (by simp) (by simp [Value.oneCell']) (by simp only [maxLen]; omega) (by omega) (by omega) ?_
                  intro v8 w8 O8 F8 K8 _
                  have hvb : ∀ x ∈ ob v7, w4.heap.size ≤ x := fun x hx => Nat.le_trans (by omega) (O7.lt hx).1
                  have F48 : Fr [] w4 w8 := F47.trans F8 (fun x hx hlt => by have := hvb x hx; omega)
                  have e8 : [] ++ bv o3.xs ++ [Value.int .u8 71] = bv (o3.xs ++ [71]) := by simp [bv_append]; rfl
                  simp only [Nat.zero_add] at O8
                  rw [e8] at O8
                  obtain ⟨g, cap, cur, hv8, hg, Bg, e1, e2, e3, e4⟩ := O8.blk (by omega)
                  subst hv8
                  have q0 : (0 : Int) ≤ (o3.xs.length : Int) := by omega
                  have q1 : (o3.xs.length : Int) ≤ (cap : Int) := by omega
                  have O8' := O8.base (base' := w4.heap.size) (by omega)
                  have HO8 := Lib.hid O8'
                  have HF48 := Lib.hid F48
                  clear O8 O8' e8 F48 e4 e3 Bg
                  refine effT_keep HF48.out ?_
                  simp only [pickN, Act.put, List.setIfInBounds_toArray, List.set_cons_zero, List.set_cons_succ]
                  repeat (refine wpT_free ?_ (by rfl) (by rfl) (fun w' => ?_) ?_; rotate_left; (simp only [pickN]; go_simp; rfl); simp only [pickN, Act.put, List.setIfInBounds_toArray, List.set_cons_zero, List.set_cons_succ])
                  exact wpT_done ⟨rfl, _, _, _, _, g, cap, HF48.out, HO8.out, e1, e2, rfl⟩
              · try simp only [pickN]
                refine wpList_buildSlice1 rfl 34 5 _ rfl [.int .u8 0] 1 1 Try.underlying34 info_byteZ (by simp) (by omega) (by omega) _ [.int .u8 71] (by rfl) (by rfl) (by simp) ?_
                intro w5 B5 F5 S5
                have F45 : Fr [] w4 w5 := hS.trans0 F5
                have z5 := F5.size
                refine effT_keep F45 ?_
                simp only [pickN, Act.put, List.setIfInBounds_toArray, List.set_cons_zero, List.set_cons_succ]
                refine wpT_eff (by rfl) ?_
                try simp only [pickN]
                refine wpList_build0 rfl 34 5 1 rfl bytes_build0 ?_
                intro w6 O6 F6 S6
                have F46 : Fr [] w4 w6 := F45.trans0 F6
                have z6 := F6.size
                refine effT_keep F46 ?_
                simp only [pickN, Act.put, List.setIfInBounds_toArray, List.set_cons_zero, List.set_cons_succ]
                refine wpT_eff (by rfl) ?_
                try simp only [pickN]
                refine wpList_appB rfl _ _ 34 34 rfl _ 5 5 .u8 1 Try.underlying34 Try.underlying34 info_byte _ 0 [] (by rfl) O6 o3.a o3.xs.length o3.cap (bv o3.xs) (by rfl) ((hR.fr0 F5).fr0 F6) (by simp) (bv_one _) (by simp only [maxLen]; omega) (by omega) (by omega) ?_
                intro v7 w7 O7 F7 K7 _
                have F47 : Fr [] w4 w7 := F46.trans F7 (fun x hx hlt => by simp at hx; omega)
                have z7 := F7.size
                refine effT_keep F47 ?_
                simp only [pickN, Act.put, List.setIfInBounds_toArray, List.set_cons_zero, List.set_cons_succ]
                refine wpT_eff (by rfl) ?_
                have B7 := (B5.fr F6 (by simp)).fr F7 (by simp; omega)
                try simp only [pickN]
                refine wpList_appB rfl _ _ 34 34 rfl _ 5 5 .u8 1 Try.underlying34 Try.underlying34 info_byte _ (0 + o3.xs.length) ([] ++ bv o3.xs) (by rfl) O7 _ 1 1 [.int .u8 71] (by rfl) (by simpa using B7.rd0 1) (by simp) (by simp [Value.oneCell']) (by simp only [maxLen]; omega) (by omega) (by omega) ?_
                intro v8 w8 O8 F8 K8 _
                have hvb : ∀ x ∈ ob v7, w4.heap.size ≤ x := fun x hx => Nat.le_trans (by omega) (O7.lt hx).1
                have F48 : Fr [] w4 w8 := F47.trans F8 (fun x hx hlt => by have := hvb x hx; omega)
                have e8 : [] ++ bv o3.xs ++ [Value.int .u8 71] = bv (o3.xs ++ [71]) := by simp [bv_append]; rfl
                simp only [Nat.zero_add] at O8
                rw [e8] at O8
                obtain ⟨g, cap, cur, hv8, hg, Bg, e1, e2, e3, e4⟩ := O8.blk (by omega)
                subst hv8
                have q0 : (0 : Int) ≤ (o3.xs.length : Int) := by omega
                have q1 : (o3.xs.length : Int) ≤ (cap : Int) := by omega
                have O8' := O8.base (base' := w4.heap.size) (by omega)
                have HO8 := Lib.hid O8'
                have HF48 := Lib.hid F48
                clear O8 O8' e8 F48 e4 e3 Bg
                refine effT_keep HF48.out ?_
                simp only [pickN, Act.put, List.setIfInBounds_toArray, List.set_cons_zero, List.set_cons_succ]
                repeat (refine wpT_free ?_ (by rfl) (by rfl) (fun w' => ?_) ?_; rotate_left; (simp only [pickN]; go_simp; rfl); simp only [pickN, Act.put, List.setIfInBounds_toArray, List.set_cons_zero, List.set_cons_succ])
                exact wpT_done ⟨rfl, _, _, _, _, g, cap, HF48.out, HO8.out, e1, e2, rfl⟩
            · rename_i hK
              rintro a' w5 ⟨v70, v73, v74, v75, g, cap, F5, O5, e1, e2, rfl⟩
              have hO5 := O5.lt (k := g) (by simp)
              have hz4 := HZ4.out
              have T5 := HS.out.more (HG4.out.trans0 F5) [wr.heap.size, g] (fun x hx => by simp at hx; rcases hx with rfl | rfl <;> right <;> omega)
              have B5 := HB4.out.fr F5 (by simp)
              have k0 : w5.cell? ⟨wr.heap.size, 0, none⟩ = some (.int .i64 o1) := B5.cellAt rfl
              have k1 : w5.cell? ⟨wr.heap.size, 1, none⟩ = some (.int .i64 o2) := B5.cellAt rfl
              have k2 : w5.cell? ⟨wr.heap.size, 2, none⟩ = some (.slice o3.a o3.xs.length o3.cap) := B5.cellAt rfl
              have R5 := HR4.out.fr0 F5
              have HO5 := Lib.hid O5
              have HT5 := Lib.hid T5
              have HB5 := Lib.hid B5
              have HR5 := Lib.hid R5
              have HGO := Lib.hid hO5
              clear O5 T5 B5 R5 hO5 hz4 F5 HB4 HS HT4 HR4 d4
              refine hK _ _ ?_
              simp only [pickN, Act.put, List.setIfInBounds_toArray, List.set_cons_zero, List.set_cons_succ]
              refine wp_seq_join (JoinR W pa ba w3.heap.size wr.heap.size g k w4.heap.size cap o1 o2 o3) ?_ ?_
              · by_cases c0 : o1 = 0
                · subst c0
                  go_wp2_with fail
                  refine (write_all HT5.out.da (by have := HT5.out.fr.size; omega) o2 (some ⟨g, 0, none⟩) o3.xs.length cap o3.xs rfl HO5.out.rdP (by have := HL.out; omega)).mono ?_
                  rintro e w6 ⟨lv6, rfl, D6, F6, K6⟩
                  have T6 := HT5.out.disk D6 _ F6 (fun k hk => hk) K6 (HT5.out.yd.write HY.out)
                  have B6 := HB5.out.fr F6 (HT5.out.far _ (by simp)).2.1
                  have O6 := HO5.out.fr F6 (fun x hx => by simp at hx; subst hx; exact (HT5.out.far _ (by simp)).2.1)
                  have k1 : w6.cell? ⟨wr.heap.size, 1, none⟩ = some (.int .i64 o2) := B6.cellAt rfl
                  have k2 : w6.cell? ⟨wr.heap.size, 2, none⟩ = some (.slice o3.a o3.xs.length o3.cap) := B6.cellAt rfl
                  have R6 : Rd w6 o3.a (bv o3.xs) := HP.out.fr0 T6.fr
                  have HB6 := Lib.hid B6
                  have HO6 := Lib.hid O6
                  have HR6 := Lib.hid R6
                  have HT6 := Lib.hid T6
                  rw [HSim.out.errWrite o2 o3.xs]
                  clear D6 F6 K6 T6 B6 O6 R6 HB5 HT5 HO5 HR5
                  go_wp2_with (first
                    | (refine wpList_loadB rfl 31 _ rfl w3.heap.size (by rfl) 31 cs _ HT6.out.hb Try.underlying31 rfl (by rw [HT6.out.len3]; exact ref_size) ?_))
                  refine (refPut_all HT6.out.ra HT6.out.lt o2 o3.a o3.xs.length o3.cap o3.xs rfl HR6.out (by have := HSim.out.len; have := HL.out; omega)).mono ?_
                  rintro e w7 ⟨cs7, rfl, R7, F7⟩
                  have HR7 := Lib.hid R7
                  have HF7 := Lib.hid F7
                  clear R7 F7
                  go_wp2_with (first
                    | (refine wpList_storeB rfl 31 _ _ rfl w3.heap.size 0 cs7 (by rfl) (by rfl) 31 cs (HT6.out.hb.fr HF7.out (by simp)) (by rw [HR7.out.len3, HT6.out.len3]; omega) (by rw [HR7.out.len3]; exact ref_size) HR7.out.one ?_; intro w8 B8 F8 S8; have HB8 := Lib.hid B8; have HF8 := Lib.hid F8; clear B8 F8 S8))
                  have e8 : splice cs 0 cs7 = cs7 := splice_all _ _ (by rw [HR7.out.len3, HT6.out.len3])
                  have T8 := HT6.out.ref HR7.out HF7.out (e8 ▸ HB8.out) HF8.out
                  have HS8 := Lib.hid (HSim.out.write o2 o3.xs)
                  have HB8o := Lib.hid ((HB6.out.fr HF7.out (by simp)).fr HF8.out (fun h => (HT6.out.far wr.heap.size (by simp)).1 (by simpa using h)))
                  have HO8 := Lib.hid ((HO6.out.fr0 HF7.out).fr HF8.out (fun x hx h => by simp at hx; rw [hx] at h; exact (HT6.out.far g (by simp)).1 (by simpa using h)))
                  have HT8 := Lib.hid T8
                  have hl8 : (d.write o2 o3.xs).2.loose.length ≤ k + 1 := by have := write_loose d o2 o3.xs; have := HL.out; omega
                  have HL8 := Lib.hid hl8
                  generalize (d.write o2 o3.xs).2 = d8 at *
                  generalize (r.put o2 o3.xs).2 = r8 at *
                  generalize (r.put o2 o3.xs).1 = er at *
                  clear T8 e8 hl8 HB8 HF8 HR7 HF7 HT6 HR6 HO6 HB6 HSim HL
                  go_wp2_with fail
                  unfold JoinR
                  exact ⟨_, _, _, _, _, _, _, _, _, _, _, _, _, _, _, _, _, _, _, _, _, _, _, _, _, _, _, _, _, _, _, _, _, _, _, _, _, _, _, _, _, _, HT8.out, HS8.out, HL8.out, HB8o.out, HO8.out, rfl⟩
                · by_cases c2 : o1 = 2
                  · subst c2
                    clear c0
                    go_wp2_with fail
                    refine (sync_calls HT5.out.da).mono ?_
                    rintro e w6 ⟨rfl, D6, F6⟩
                    have T6 : ScrAt W pa ba w3.heap.size [wr.heap.size, g] d.calm r (.slice none 0 0) cs w6 := HT5.out.disk D6 _ F6 (fun k hk => by simp at hk; simp [hk]) (fun k hk => by simp at hk) HT5.out.yd.calm
                    have B6 := HB5.out.fr F6 (fun h => (HT5.out.far wr.heap.size (by simp)).2.1 (by simp at h; simp [h]))
                    have O6 := HO5.out.fr F6 (fun x hx h => by simp at hx; subst hx; exact (HT5.out.far x (by simp)).2.1 (by simp at h; simp [h]))
                    have HB6 := Lib.hid B6
                    have HO6 := Lib.hid O6
                    have HT6 := Lib.hid T6
                    clear D6 T6 B6 O6 HB5 HT5 HO5 HR5
                    go_wp2_with (first
                      | (refine wpList_loadB rfl 31 _ rfl w3.heap.size (by rfl) 31 cs _ HT6.out.hb Try.underlying31 rfl (by rw [HT6.out.len3]; exact ref_size) ?_))
                    refine (refSync_calls HT6.out.ra HT6.out.lt).mono ?_
                    rintro e w7 ⟨cs7, rfl, R7, F7⟩
                    have HR7 := Lib.hid R7
                    have HF7 := Lib.hid F7
                    clear R7 F7
                    go_wp2_with (first
                      | (refine wpList_storeB rfl 31 _ _ rfl w3.heap.size 0 cs7 (by rfl) (by rfl) 31 cs (HT6.out.hb.fr HF7.out (by simp)) (by rw [HR7.out.len3, HT6.out.len3]; omega) (by rw [HR7.out.len3]; exact ref_size) HR7.out.one ?_; intro w8 B8 F8 S8; have HB8 := Lib.hid B8; have HF8 := Lib.hid F8; clear B8 F8 S8))
                    have HS8 := Lib.hid HSim.out.calm
                    have hl8 : d.calm.loose.length ≤ k + 1 := by simp [D.calm]
                    have e8 : splice cs 0 cs7 = cs7 := splice_all _ _ (by rw [HR7.out.len3, HT6.out.len3])
                    have T8 := HT6.out.ref HR7.out HF7.out (e8 ▸ HB8.out) HF8.out
                    have HB8o := Lib.hid ((HB6.out.fr HF7.out (by simp)).fr HF8.out (fun h => (HT6.out.far wr.heap.size (by simp)).1 (by simpa using h)))
                    have HO8 := Lib.hid ((HO6.out.fr0 HF7.out).fr HF8.out (fun x hx h => by simp at hx; rw [hx] at h; exact (HT6.out.far g (by simp)).1 (by simpa using h)))
                    have HT8 := Lib.hid T8
                    have HL8 := Lib.hid hl8
                    generalize d.calm = d8 at *
                    generalize r.calm = r8 at *
                    clear T8 e8 hl8 HB8 HF8 HR7 HF7 HT6 HO6 HB6 HSim HL
                    go_wp2_with fail
                    unfold JoinR
                    exact ⟨_, _, _, _, _, _, _, _, _, _, _, _, _, _, _, _, _, _, _, _, _, _, _, _, _, _, _, _, _, _, _, _, _, _, _, _, _, _, _, _, _, _, HT8.out, HS8.out, HL8.out, HB8o.out, HO8.out, rfl⟩
                  · by_cases c3 : o1 = 3
                    · subst c3
                      clear c0 c2
                      go_wp2_with fail
                      refine (crash_all HT5.out.da o2).mono ?_
                      rintro e w6 ⟨lv6, rfl, D6, F6, K6⟩
                      have T6 := HT5.out.disk D6 _ F6 (fun k hk => by simp at hk; rcases hk with hk | hk <;> simp [hk]) (fun k hk => .inl (K6 k hk)) (HT5.out.yd.crash o2)
                      have B6 := HB5.out.fr F6 (fun h => (HT5.out.far wr.heap.size (by simp)).2.1 (by simp at h; rcases h with h | h <;> simp [h]))
                      have O6 := HO5.out.fr F6 (fun x hx h => by simp at hx; subst hx; exact (HT5.out.far x (by simp)).2.1 (by simp at h; rcases h with h | h <;> simp [h]))
                      have k1 : w6.cell? ⟨wr.heap.size, 1, none⟩ = some (.int .i64 o2) := B6.cellAt rfl
                      have HB6 := Lib.hid B6
                      have HO6 := Lib.hid O6
                      have HT6 := Lib.hid T6
                      rw [Sim.errCrash (d := d) (r := r) o2]
                      clear D6 K6 T6 B6 O6 HB5 HT5 HO5 HR5
                      go_wp2_with (first
                        | (refine wpList_loadB rfl 31 _ rfl w3.heap.size (by rfl) 31 cs _ HT6.out.hb Try.underlying31 rfl (by rw [HT6.out.len3]; exact ref_size) ?_))
                      refine (refCrash_all HT6.out.ra HT6.out.lt o2).mono ?_
                      rintro e w7 ⟨cs7, rfl, R7, F7⟩
                      have HR7 := Lib.hid R7
                      have HF7 := Lib.hid F7
                      clear R7 F7
                      go_wp2_with (first
                        | (refine wpList_storeB rfl 31 _ _ rfl w3.heap.size 0 cs7 (by rfl) (by rfl) 31 cs (HT6.out.hb.fr HF7.out (by simp)) (by rw [HR7.out.len3, HT6.out.len3]; omega) (by rw [HR7.out.len3]; exact ref_size) HR7.out.one ?_; intro w8 B8 F8 S8; have HB8 := Lib.hid B8; have HF8 := Lib.hid F8; clear B8 F8 S8))
                      have HS8 := Lib.hid (HSim.out.crash o2)
                      have hl8 : (d.crash o2).2.loose.length ≤ k + 1 := by
                        have := HL.out
                        unfold D.crash
                        split
                        · simp only; omega
                        · simp
                      generalize (r.crash o2).1 = er at *
                      have e8 : splice cs 0 cs7 = cs7 := splice_all _ _ (by rw [HR7.out.len3, HT6.out.len3])
                      have T8 := HT6.out.ref HR7.out HF7.out (e8 ▸ HB8.out) HF8.out
                      have HB8o := Lib.hid ((HB6.out.fr HF7.out (by simp)).fr HF8.out (fun h => (HT6.out.far wr.heap.size (by simp)).1 (by simpa using h)))
                      have HO8 := Lib.hid ((HO6.out.fr0 HF7.out).fr HF8.out (fun x hx h => by simp at hx; rw [hx] at h; exact (HT6.out.far g (by simp)).1 (by simpa using h)))
                      have HT8 := Lib.hid T8
                      have HL8 := Lib.hid hl8
                      generalize (d.crash o2).2 = d8 at *
                      generalize (r.crash o2).2 = r8 at *
                      clear T8 e8 hl8 HB8 HF8 HR7 HF7 HT6 HO6 HB6 HSim HL
                      go_wp2_with fail
                      unfold JoinR
                      exact ⟨_, _, _, _, _, _, _, _, _, _, _, _, _, _, _, _, _, _, _, _, _, _, _, _, _, _, _, _, _, _, _, _, _, _, _, _, _, _, _, _, _, _, HT8.out, HS8.out, HL8.out, HB8o.out, HO8.out, rfl⟩
                    · have q0 : (o1 == 0) = false := by simpa using c0
                      have q2 : (o1 == 2) = false := by simpa using c2
                      have q3 : (o1 == 3) = false := by simpa using c3
                      clear c0 c2 c3
                      go_wp2_with fail
                      have hl8 : d.loose.length ≤ k + 1 := by have := HL.out; omega
                      obtain ⟨d8, r8, lv6, cs7, HT8, HS8, hl8⟩ : ∃ d8 r8 lv6 cs7, ScrAt W pa ba w3.heap.size [wr.heap.size, g] d8 r8 lv6 cs7 w5 ∧ Sim d8 r8 ∧ d8.loose.length ≤ k + 1 := ⟨d, r, lv, cs, HT5.out, HSim.out, hl8⟩
                      have HT8 := Lib.hid HT8
                      have HS8 := Lib.hid HS8
                      have HL8 := Lib.hid hl8
                      have HO8 := HO5
                      have HB8o := HB5
                      clear hl8 HT5 HO5 HB5 HR5 HSim HL q0 q2 q3
                      go_wp2_with fail
                      unfold JoinR
                      exact ⟨_, _, _, _, _, _, _, _, _, _, _, _, _, _, _, _, _, _, _, _, _, _, _, _, _, _, _, _, _, _, _, _, _, _, _, _, _, _, _, _, _, _, HT8.out, HS8.out, HL8.out, HB8o.out, HO8.out, rfl⟩
              · intro a' w8 hj
                unfold JoinR at hj
                obtain ⟨v80, v81, v82, v83, v84, v85, v86, v87, v88, v89, v90, v91, v92, v93, v94, v95, v96, v97, v98, v99, v100, v101, v102, v103, v104, v105, v106, v107, v108, v109, v110, v111, v112, v113, v114, v115, v116, er, d8, r8, lv6, cs7, t8, s8, l8, b8, o8, rfl⟩ := hj
                have HT8 := Lib.hid t8
                have HS8 := Lib.hid s8
                have HL8 := Lib.hid l8
                have HB8o := Lib.hid b8
                have HO8 := Lib.hid o8
                clear t8 s8 l8 b8 o8 HT5 HO5 HB5 HR5 HSim HL k0 k1 k2
                simp only [List.take_succ_cons, List.take_zero, List.drop_succ_cons, List.drop_zero, List.cons_append, List.nil_append]
                go_wp2_with fail
                generalize hwo : wr.heap.size = wo at *
                have R0 : Xr w8 w4.heap.size g o3.xs.length cap (.int .i64 (0 : Nat)) w8 := ⟨0, o3.xs, Nat.zero_le _, rfl, rfl, HO8.out, Fr.refl _ _⟩
                have HR0x := Lib.hid R0
                clear R0 HO8
                go_loopw [119] (fun i wx => Xr w8 w4.heap.size g o3.xs.length cap i wx) (fun i _ => o3.xs.length - (intOf i).toNat)
                case atStart => exact HR0x.out
                case round =>
                  obtain ⟨j, l, hj, rfl, hl, hO, hF⟩ := hrel
                  by_cases hltj : j < o3.xs.length
                  · obtain ⟨g', cap', cur, x, hv, hg', hB, hn, hx, hc, hset⟩ := hO.byteAt j (by omega)
                    simp only [Value.slice.injEq] at hv
                    obtain ⟨hge, _, rfl⟩ := hv
                    simp only [Option.some.injEq, Addr.mk.injEq, and_true] at hge
                    subst hge
                    have j0 : (0 : Int) ≤ (j : Int) := by omega
                    have j1 : (j : Int) < (o3.xs.length : Int) := by omega
                    have HB := Lib.hid hB
                    have HSET := Lib.hid hset
                    have HFx := Lib.hid hF
                    have HLX := Lib.hid hl
                    have hnj : j < cur.length := by omega
                    clear hB hset hF hl hx hO
                    go_wp2_with (refine wpList_store1 rfl 5 _ _ rfl g j _ (by rfl) (by rfl) rfl 5 cur HB.out hnj (by kernel_rfl) rfl ?_; intro w9 B9 F9 S9)
                    have O9 := HSET.out w9 _ B9
                    rw [List.set_append_left _ _ (by have := HLX.out; omega)] at O9
                    have R9 : Xr w8 w4.heap.size g o3.xs.length cap (.int .i64 (j + 1 : Nat)) w9 := ⟨j + 1, _, by omega, rfl, by simpa using HLX.out, O9, HFx.out.trans1 F9⟩
                    have H9 := Lib.hid R9
                    clear R9 O9 B9 F9
                    first
                      | (go_roundw <;> first | exact H9.out | (simp [intOf]; omega))
                      | (refine ⟨⟨_, _, _, _, _, _, _, _, _, _, _, H9.out, rfl⟩, ?_⟩
                         show o3.xs.length - (intOf (.int .i64 ((j + 1 : Nat) : Int))).toNat < o3.xs.length - (intOf (.int .i64 (j : Int))).toNat
                         simp [intOf]
                         omega)
                  · have T10 := HT8.out.own [g] hF (by simp)
                    have hne : wo ∉ [g] := fun h => by simp at h; have := HGO.out; have := HZ4.out; omega
                    have B10 := HB8o.out.fr hF hne
                    have k1 : wr.cell? ⟨wo, 1, none⟩ = some (.int .i64 o2) := B10.cellAt rfl
                    have HT10 := Lib.hid T10
                    have HO10 := Lib.hid hO
                    have HB10 := Lib.hid B10
                    have HLX := Lib.hid hl
                    have hltj2 : ¬ (j : Int) < (o3.xs.length : Int) := by omega
                    clear T10 hne B10 hF hO hl HT8 HB8o
                    go_wp2_with fail
                    refine (read_all HT10.out.da o2).mono ?_
                    rintro e w11 ⟨v11, rfl, O11, F11⟩
                    have T11 := HT10.out.calm F11
                    have k1 : w11.cell? ⟨wo, 1, none⟩ = some (.int .i64 o2) := (HB10.out.fr F11 (by simp)).cellAt rfl
                    have HT11 := Lib.hid T11
                    have HO11 := Lib.hid O11
                    have HF11 := Lib.hid F11
                    clear T11 O11 F11
                    go_wp2_with (first
                      | (refine wpList_loadB rfl 31 _ rfl w3.heap.size (by rfl) 31 cs7 _ HT11.out.hb Try.underlying31 rfl (by rw [HT11.out.len3]; exact ref_size) ?_))
                    refine (refRead_calls HT11.out.ra o2).mono ?_
                    rintro e w12 ⟨v12, rfl, O12, F12⟩
                    have T12 := HT11.out.calm F12
                    have O11' := HO11.out.fr0 F12
                    have hby := HT11.out.yd.read o2
                    rw [HS8.out.read o2] at O11' hby ⊢
                    generalize hX : (r8.read o2).1 = X at *
                    generalize hE : (r8.read o2).2 = E at *
                    obtain ⟨a11, c11, hv11, _, _, r11⟩ := O11'.form
                    obtain ⟨a12, c12, hv12, _, _, r12⟩ := O12.form
                    rw [hv11, hv12]
                    obtain ⟨na', sa', la', nc', sc', lc', m', hcs', hb1, hb2⟩ := T12.ra.cells
                    have c0 : ∀ w', Fr [] w12 w' → w'.cell? ⟨w3.heap.size, 0, none⟩ = some (.slice na' r8.now.length nc') := fun w' f => (T12.hb.fr f (by simp)).cellAt (by rw [hcs']; rfl)
                    have c2 : ∀ w', Fr [] w12 w' → w'.cell? ⟨w3.heap.size, 2, none⟩ = some (.slice la' r8.loose.length lc') := fun w' f => (T12.hb.fr f (by simp)).cellAt (by rw [hcs']; rfl)
                    have O12p := (HO10.out.fr0 HF11.out).fr0 F12
                    have c9 : ∀ w', Fr [] w12 w' → w'.cell? ⟨g, o3.xs.length, none⟩ = some (.int .u8 71) := fun w' f => by
                      obtain ⟨g', cap', cur, x, hv, _, _, _, hx, hc, _⟩ := (O12p.fr0 f).byteAt o3.xs.length (by omega)
                      simp only [Value.slice.injEq, Option.some.injEq, Addr.mk.injEq] at hv
                      obtain ⟨⟨rfl, _⟩, _, _⟩ := hv
                      rw [List.getElem?_append_right (by have := HLX.out; omega), show o3.xs.length - l.length = 0 by have := HLX.out; omega] at hx
                      simp only [List.getElem?_cons_zero, Option.some.injEq] at hx
                      rw [hc, ← hx]
                    have q0 : (0 : Int) ≤ (o3.xs.length : Int) := by omega
                    have q1 : (o3.xs.length : Int) + 1 ≤ (cap : Int) := by omega
                    have q2 : (0 : Int) ≤ (o3.xs.length : Int) + 1 := by omega
                    have q3 : (o3.xs.length : Int) < (o3.xs.length : Int) + 1 := by omega
                    have qw : IntKind.i64.wrap ((o3.xs.length : Int) + 1) = (o3.xs.length : Int) + 1 := by rw [IntKind.wrap_i64]; omega
                    have q4 : (o3.xs.length : Int) < (cap : Int) := by omega
                    have HT12 := Lib.hid T12
                    have HR11 := Lib.hid r11
                    have HR12 := Lib.hid r12
                    have HBY := Lib.hid hby
                    have HO12 := Lib.hid O12
                    clear T12 O11' O12 hv11 hv12 r11 r12 hcs' O12p hby HT11 HO11 HT10 HO10 HB10 k1
                    go_wp2_with fail
                    refine wp_region_ord (Fr [] w12) [0,1,2,3,4,5,6,7,8,9,10,11,12,13,14,15,17,18,19,16,20,21,22,23,25,26,27,24,28,29,30,31,32,33,34,35,36,37,38,39,40,41] [] [11, 16, 24] [18, 26, 39] mixed (by kernel_rfl) ?_
                    have hS : Fr [] w12 w12.drew := (Fr.refl _ _).drew
                    simp only [pairs, pickN]
                    repeat (first | (refine wpO_free ?_ (by rfl) (by rfl) (fun w' => ?_) ?_; rotate_left; (go_simp; rfl); simp only [Act.put, List.setIfInBounds_toArray, List.set_cons_zero, List.set_cons_succ]) | (refine wpO_take ?_ hS (by rfl) (by rfl) (fun w' hw' => ?_) ?_; rotate_left; (go_simp; rfl); simp only [Act.put, List.setIfInBounds_toArray, List.set_cons_zero, List.set_cons_succ]) | (refine wpO_pass (by rfl) ?_; simp only [Act.put, List.setIfInBounds_toArray, List.set_cons_zero, List.set_cons_succ]))
                    refine wpO_eff (by rfl) ?_
                    refine wpList_callG (by rfl) 18 #[.slice a11 X.length c11, .slice a12 X.length c12] (by first | (go_simp; done) | (go_simp; rfl)) _ (bytes_calls w12.drew a11 a12 c11 c12 X.length X.length X X rfl rfl HBY.out HBY.out (HR11.out.fr0 hS) (HR12.out.fr0 hS)) ?_
                    rintro e w' ⟨rfl, rfl⟩
                    refine ⟨_, rfl, effQ_keep hS ?_⟩
                    simp only [decide_true]
                    simp only [Act.put, List.setIfInBounds_toArray, List.set_cons_zero, List.set_cons_succ]
                    repeat (first | (refine wpO_free ?_ (by rfl) (by rfl) (fun w' => ?_) ?_; rotate_left; (go_simp; rfl); simp only [Act.put, List.setIfInBounds_toArray, List.set_cons_zero, List.set_cons_succ]) | (refine wpO_take ?_ hS (by rfl) (by rfl) (fun w' hw' => ?_) ?_; rotate_left; (go_simp; rfl); simp only [Act.put, List.setIfInBounds_toArray, List.set_cons_zero, List.set_cons_succ]) | (refine wpO_pass (by rfl) ?_; simp only [Act.put, List.setIfInBounds_toArray, List.set_cons_zero, List.set_cons_succ]))
                    refine wpO_eff (by rfl) ?_
                    refine wpList_callG (by rfl) 19 #[.pointer (some ⟨pa, 0, none⟩)] (by first | (go_simp; done) | (go_simp; rfl)) _ (loose_calls (HT12.out.da.fr0 hS)) ?_
                    rintro e w' ⟨rfl, rfl⟩
                    refine ⟨_, rfl, effQ_keep hS ?_⟩
                    rw [HS8.out.len]
                    simp only [Act.put, List.setIfInBounds_toArray, List.set_cons_zero, List.set_cons_succ]
                    repeat (first | (refine wpO_free ?_ (by rfl) (by rfl) (fun w' => ?_) ?_; rotate_left; (go_simp; rfl); simp only [Act.put, List.setIfInBounds_toArray, List.set_cons_zero, List.set_cons_succ]) | (refine wpO_take ?_ hS (by rfl) (by rfl) (fun w' hw' => ?_) ?_; rotate_left; (go_simp; rfl); simp only [Act.put, List.setIfInBounds_toArray, List.set_cons_zero, List.set_cons_succ]) | (refine wpO_pass (by rfl) ?_; simp only [Act.put, List.setIfInBounds_toArray, List.set_cons_zero, List.set_cons_succ]))
                    refine wpO_eff (by rfl) ?_
                    refine wpList_callG (by rfl) 20 #[.pointer (some ⟨pa, 0, none⟩)] (by first | (go_simp; done) | (go_simp; rfl)) _ (blocks_calls (HT12.out.da.fr0 hS)) ?_
                    rintro e w' ⟨rfl, rfl⟩
                    refine ⟨_, rfl, effQ_keep hS ?_⟩
                    rw [HS8.out.size]
                    simp only [Act.put, List.setIfInBounds_toArray, List.set_cons_zero, List.set_cons_succ]
                    repeat (first | (refine wpO_free ?_ (by rfl) (by rfl) (fun w' => ?_) ?_; rotate_left; (go_simp; rfl); simp only [Act.put, List.setIfInBounds_toArray, List.set_cons_zero, List.set_cons_succ]) | (refine wpO_take ?_ hS (by rfl) (by rfl) (fun w' hw' => ?_) ?_; rotate_left; (go_simp; rfl); simp only [Act.put, List.setIfInBounds_toArray, List.set_cons_zero, List.set_cons_succ]) | (refine wpO_pass (by rfl) ?_; simp only [Act.put, List.setIfInBounds_toArray, List.set_cons_zero, List.set_cons_succ]))
                    refine wpO_nil ?_
                    have R13 : Scr W pa ba w3.heap.size ops.xs.length (.int .i64 (k + 1 : Nat)) w12.drew := ⟨k + 1, by omega, rfl, d8, r8, _, cs7, HT12.out.more hS [] (by simp), HS8.out, HL8.out⟩
                    have HR13 := Lib.hid R13
                    clear R13 HT12 HO12 HR11 HR12 HBY c0 c2 c9 hS F12 HF11
                    go_wp2_with fail
                    go_roundw
                    case rel => exact HR13.out
                    case measure => simp [intOf]; omega
          · have hi : ¬ (k : Int) < (ops.xs.length : Int) := by omega
            have hF := hS.fr
            clear hS hSim
            go_wp2_with fail
            go_ret
            exact ⟨rfl, hF.below (Nat.le_refl _) (by simp)⟩
    · go_wp2_with fail
      refine (new_all w1 n1 (by omega) (by omega)).mono ?_
      rintro e w2 ⟨pa, ba, rfl, D2, F2⟩
      go_wp2_with fail
      refine (refNew_calls w2 (fun k => k ∈ [pa, ba]) (fun k hk => D2.lt k (by simpa using hk)) n1 (by omega) (by omega)).mono ?_
      rintro e w3 ⟨cs, rfl, R3, F3⟩
      have D3 := D2.fr0 F3
      obtain ⟨na, sa, la, nc, sc, lc, m, hcs, _, _⟩ := R3.cells
      have hcl : cs.length = 3 := by rw [hcs]; rfl
      have hc1 : ∀ v ∈ cs, v.oneCell' = true := by rw [hcs]; simp [Value.oneCell']
      have HC1 := Lib.hid hc1
      have HCL := Lib.hid hcl
      clear hcs hc1 hcl
      by_cases hlen : 200 < ops.xs.length
      · have hlen2 : (200 : Int) < (ops.xs.length : Int) := by omega
        go_wp2_with (first
          | (refine wpList_allocZ rfl 31 rfl _ ref_zero ?_; intro w4 B4 F4 S4)
          | (refine wpList_storeB rfl 31 _ _ rfl w3.heap.size 0 cs (by rfl) (by rfl) 31 _ B4 (by rw [HCL.out]; simp) (by rw [HCL.out]; exact ref_size) HC1.out ?_; intro w5 B5 F5 S5))
        go_ret
        exact ⟨rfl, ((((F1.trans0 F2).trans0 F3).trans0 F4).trans F5 (fun k hk hlt => by simp at hk; have := F1.size; have := F2.size; have := F3.size; omega)).below (Nat.le_refl _) (by simp)⟩
      · have hlen2 : ¬ (200 : Int) < (ops.xs.length : Int) := by omega
        go_wp2_with (first
          | (refine wpList_allocZ rfl 31 rfl _ ref_zero ?_; intro w4 B4 F4 S4)
          | (refine wpList_storeB rfl 31 _ _ rfl w3.heap.size 0 cs (by rfl) (by rfl) 31 _ B4 (by rw [HCL.out]; simp) (by rw [HCL.out]; exact ref_size) HC1.out ?_; intro w5 B5 F5 S5))
        have R0 : Scr W pa ba w3.heap.size ops.xs.length (.int .i64 (0 : Nat)) w5 := by
          have e5 : splice [Value.slice none 0 0, .slice none 0 0, .slice none 0 0] 0 cs = cs := splice_all _ _ (by rw [HCL.out]; rfl)
          rw [e5] at B5
          have hs1 := F1.size
          have hs2 := F2.size
          have hs3 := F3.size
          have hlt3 := D3.lt
          have f45 : Fr [w3.heap.size] w3 w5 := (F4.ext (S := [w3.heap.size])).trans1 F5
          refine ⟨0, Nat.zero_le _, rfl, D.new n1, Rf.new n1, .slice none 0 0, cs, ⟨?_, D.new_byt _, B5, ?_, ?_, ?_, ?_, ?_⟩, Sim.new _, Nat.le_refl _⟩
          · exact (D3.wbase (by omega)).fr f45 (fun hm => by have := hlt3 pa (by simp); simp at hm; omega) (fun hm => by have := hlt3 ba (by simp); simp at hm; omega) (fun k hk => by simp at hk)
          · refine R3.step f45 (fun k hk => by simp at hk; omega) (fun k hk => ?_)
            rcases hk with hk | hk | hk
            · simp at hk
            · right
              omega
            · left
              simpa using hk
          · intro hm
            have := hlt3 _ hm
            omega
          · omega
          · intro g hg
            simp at hg
          · exact ((F1.trans0 F2).trans0 F3).trans f45 (fun k hk hlt => by simp at hk; omega)
        have HR0 := Lib.hid R0
        clear R0 B5 B4 F5 S5 S4 F4 R3 D3 D2 F3 F2 F1 HC1 HCL
        go_wp2_with fail
        go_loopw [66] (fun i wr => Scr W pa ba w3.heap.size ops.xs.length i wr) (fun i _ => ops.xs.length - (intOf i).toNat)
        case atStart => exact HR0.out
        case round =>
          obtain ⟨k, hk, rfl, d, r, lv, cs, hS, hSim, hL⟩ := hrel
          by_cases hlt : k < ops.xs.length
          · obtain ⟨o, ho⟩ : ∃ o, ops.xs[k]? = some o := ⟨_, List.getElem?_eq_getElem hlt⟩
            obtain ⟨b, off, ha, hr, hbl, hp⟩ := ops_at hops k o ho
            obtain ⟨pbt, pr, ple, pcap⟩ := bytes_ok hp
            obtain ⟨o1, o2, o3, o4⟩ := o
            simp only at hr pbt pr ple pcap hp
            have hr2 := rangeAt_fr hr hS.fr (by simp)
            have i0 : (0 : Int) ≤ (k : Int) := by omega
            have i1 : (k : Int) < (ops.xs.length : Int) := by omega
            rw [ha]
            have HR := Lib.hid hr2
            have HS := Lib.hid hS
            have HP := Lib.hid pr
            have HY := Lib.hid pbt
            clear hr hr2 hS pr ha ho pbt hp
            have HL := Lib.hid hL
            have HSim := Lib.hid hSim
            clear hL hSim
            go_wp2_with (first
              | refine wpList_load_mid rfl 36 _ rfl b (off + k * 3) rfl [.int .i64 o1, .int .i64 o2, o3.val] _ HR.out Try.underlying36 rfl (by exact op_size) ?_
              | (refine wpList_allocZ rfl 36 rfl _ op_zero ?_; intro w3' B3 F3 S3)
              | (refine wpList_storeB rfl 36 _ _ rfl wr.heap.size 0 [.int .i64 o1, .int .i64 o2, o3.val] (by rfl) (by rfl) 36 _ B3 (by simp) (by exact op_size) (by simp [SlV.val, Value.oneCell']) ?_; intro w4 B4 F4 S4))
            have G4 : Fr [] wr w4 := F3.trans F4 (fun x hx hlt => by simp at hx; omega)
            have T4 := HS.out.calm G4
            have R4 : Rd w4 o3.a (bv o3.xs) := (HP.out.fr0 HS.out.fr).fr0 G4
            have hsz4 : w4.heap.size = wr.heap.size + 1 := by omega
            have d4 : ∀ w', Fr [] w4 w' → w'.cell? ⟨wr.heap.size, 2, none⟩ = some (.slice o3.a o3.xs.length o3.cap) := fun w' f => (B4.fr f (by simp)).cellAt rfl
            have HB4 := Lib.hid B4
            have HG4 := Lib.hid G4
            have HT4 := Lib.hid T4
            have HR4 := Lib.hid R4
            have HZ4 := Lib.hid hsz4
            clear B4 G4 T4 R4 hsz4 F4 F3 S4 S3 B3
            refine wp_region_join (Fr [] w4) (.one 1 <| .one 2 <| .one 6 <| .one 7 <| .one 8 <| .two 0 (.two 3 (.one 4 <| .one 5 <| .one 9 <| .one 10 .done) 4 (.one 3 <| .one 5 <| .one 9 <| .one 10 .done)) 4 (.one 0 <| .one 3 <| .one 5 <| .one 9 <| .one 10 .done)) [] [0, 3, 4, 5] [2, 7]
              (fun a a' w' => ∃ (v70 v73 v74 v75 : Value) (g cap : Nat), Fr [] w4 w' ∧ Own w' w4.heap.size 5 1 (.slice (some ⟨g, 0, none⟩) (o3.xs.length + 1) cap) (o3.xs.length + 1) (bv (o3.xs ++ [71])) ∧ o3.xs.length + 1 ≤ cap ∧ cap ≤ maxLen ∧
                a' = (((((((((((a.put (some 71) (.pointer (some ⟨wr.heap.size, 2, none⟩))).put (some 72) (.slice o3.a o3.xs.length o3.cap)).put (some 76) (.pointer (some ⟨wr.heap.size, 2, none⟩))).put (some 77) (.slice o3.a o3.xs.length o3.cap)).put (some 78) (.int .i64 o3.xs.length)).put (some 70) v70).put (some 73) v73).put (some 74) v74).put (some 75) v75).put (some 79) (.slice (some ⟨g, 0, none⟩) o3.xs.length cap)).put (some 13) (.slice (some ⟨g, 0, none⟩) o3.xs.length cap)))
              mixed (by kernel_rfl) ?_ ?_
            · have hS : Fr [] w4 w4.drew := (Fr.refl _ _).drew
              repeat (first | (refine wpT_free ?_ (by rfl) (by rfl) (fun w' => ?_) ?_; rotate_left; (simp only [pickN]; go_simp; rfl); simp only [pickN, Act.put, List.setIfInBounds_toArray, List.set_cons_zero, List.set_cons_succ]) | (refine wpT_take ?_ hS (by rfl) (by rfl) (fun w' hw' => ?_) ?_; rotate_left; (simp only [pickN]; go_simp; rfl); simp only [pickN, Act.put, List.setIfInBounds_toArray, List.set_cons_zero, List.set_cons_succ]))
              have hz : w4.heap.size ≤ w4.drew.heap.size := Nat.le_refl _
              have hR := HR4.out.fr0 hS
              have hmx : o3.xs.length + 1 ≤ 140737488355328 := by omega
              refine wpT_two ?_ ?_
              · try simp only [pickN]
                refine wpList_build0 rfl 34 5 1 rfl bytes_build0 ?_
                intro w5 O5 F5 S5
                have F45 : Fr [] w4 w5 := hS.trans0 F5
                have z5 := F5.size
                refine effT_keep F45 ?_
                simp only [pickN, Act.put, List.setIfInBounds_toArray, List.set_cons_zero, List.set_cons_succ]
                refine wpT_two ?_ ?_
                · try simp only [pickN]
                  refine wpList_appB rfl _ _ 34 34 rfl _ 5 5 .u8 1 Try.underlying34 Try.underlying34 info_byte _ 0 [] (by rfl) O5 o3.a o3.xs.length o3.cap (bv o3.xs) (by rfl) (hR.fr0 F5) (by simp) (bv_one _) (by simp only [maxLen]; omega) (by omega) (by omega) ?_
                  intro v6 w6 O6 F6 K6 _
                  have F46 : Fr [] w4 w6 := F45.trans F6 (fun x hx hlt => by simp at hx; omega)
                  have z6 := F6.size
                  refine effT_keep F46 ?_
                  simp only [pickN, Act.put, List.setIfInBounds_toArray, List.set_cons_zero, List.set_cons_succ]
                  refine wpT_eff (by rfl) ?_
                  try simp only [pickN]
                  refine wpList_buildSlice1 rfl 34 5 _ rfl [.int .u8 0] 1 1 Try.underlying34 info_byteZ (by simp) (by omega) (by omega) _ [.int .u8 71] (by rfl) (by rfl) (by simp) ?_
                  intro w7 B7 F7 S7
                  have F47 : Fr [] w4 w7 := F46.trans0 F7
                  have z7 := F7.size
                  refine effT_keep F47 ?_
                  simp only [pickN, Act.put, List.setIfInBounds_toArray, List.set_cons_zero, List.set_cons_succ]
                  refine wpT_eff (by rfl) ?_
                  try simp only [pickN]
                  refine wpList_appB rfl _ _ 34 34 rfl _ 5 5 .u8 1 Try.underlying34 Try.underlying34 info_byte _ (0 + o3.xs.length) ([] ++ bv o3.xs) (by rfl) (O6.fr0 F7) _ 1 1 [.int .u8 71] (by rfl) (by simpa using B7.rd0 1) (by simp) (by simp [Value.oneCell']) (by simp only [maxLen]; omega) (by omega) (by omega) ?_
                  intro v8 w8 O8 F8 K8 _
                  have hvb : ∀ x ∈ ob v6, w4.heap.size ≤ x := fun x hx => Nat.le_trans (by omega) (O6.lt hx).1
                  have F48 : Fr [] w4 w8 := F47.trans F8 (fun x hx hlt => by have := hvb x hx; omega)
                  have e8 : [] ++ bv o3.xs ++ [Value.int .u8 71] = bv (o3.xs ++ [71]) := by simp [bv_append]; rfl
                  simp only [Nat.zero_add] at O8
                  rw [e8] at O8
                  obtain ⟨g, cap, cur, hv8, hg, Bg, e1, e2, e3, e4⟩ := O8.blk (by omega)
                  subst hv8
                  have q0 : (0 : Int) ≤ (o3.xs.length : Int) := by omega
                  have q1 : (o3.xs.length : Int) ≤ (cap : Int) := by omega
                  have O8' := O8.base (base' := w4.heap.size) (by omega)
                  have HO8 := Lib.hid O8'
                  have HF48 := Lib.hid F48
                  clear O8 O8' e8 F48 e4 e3 Bg
                  refine effT_keep HF48.out ?_
                  simp only [pickN, Act.put, List.setIfInBounds_toArray, List.set_cons_zero, List.set_cons_succ]
                  repeat (refine wpT_free ?_ (by rfl) (by rfl) (fun w' => ?_) ?_; rotate_left; (simp only [pickN]; go_simp; rfl); simp only [pickN, Act.put, List.setIfInBounds_toArray, List.set_cons_zero, List.set_cons_succ])
                  exact wpT_done ⟨rfl, _, _, _, _, g, cap, HF48.out, HO8.out, e1, e2, rfl⟩
                · try simp only [pickN]
                  refine wpList_buildSlice1 rfl 34 5 _ rfl [.int .u8 0] 1 1 Try.underlying34 info_byteZ (by simp) (by omega) (by omega) _ [.int .u8 71] (by rfl) (by rfl) (by simp) ?_
                  intro w6 B6 F6 S6
                  have F46 : Fr [] w4 w6 := F45.trans0 F6
                  have z6 := F6.size
                  refine effT_keep F46 ?_
                  simp only [pickN, Act.put, List.setIfInBounds_toArray, List.set_cons_zero, List.set_cons_succ]
                  refine wpT_eff (by rfl) ?_
                  try simp only [pickN]
                  refine wpList_appB rfl _ _ 34 34 rfl _ 5 5 .u8 1 Try.underlying34 Try.underlying34 info_byte _ 0 [] (by rfl) (O5.fr0 F6) o3.a o3.xs.length o3.cap (bv o3.xs) (by rfl) ((hR.fr0 F5).fr0 F6) (by simp) (bv_one _) (by simp only [maxLen]; omega) (by omega) (by omega) ?_
                  intro v7 w7 O7 F7 K7 _
                  have F47 : Fr [] w4 w7 := F46.trans F7 (fun x hx hlt => by simp at hx; omega)
                  have z7 := F7.size
                  refine effT_keep F47 ?_
                  simp only [pickN, Act.put, List.setIfInBounds_toArray, List.set_cons_zero, List.set_cons_succ]
                  refine wpT_eff (by rfl) ?_
                  have B7 := B6.fr F7 (by simp; omega)
                  try simp only [pickN]
                  refine wpList_appB rfl _ _ 34 34 rfl _ 5 5 .u8 1 Try.underlying34 Try.underlying34 info_byte _ (0 + o3.xs.length) ([] ++ bv o3.xs) (by rfl) O7 _ 1 1 [.int .u8 71] (by rfl) (by simpa using B7.rd0 1) (by simp) (by simp [Value.oneCell']) (by simp only [maxLen]; omega) (by omega) (by omega) ?_
                  intro v8 w8 O8 F8 K8 _
                  have hvb : ∀ x ∈ ob v7, w4.heap.size ≤ x := fun x hx => Nat.le_trans (by omega) (O7.lt hx).1
                  have F48 : Fr [] w4 w8 := F47.trans F8 (fun x hx hlt => by have := hvb x hx; omega)
                  have e8 : [] ++ bv o3.xs ++ [Value.int .u8 71] = bv (o3.xs ++ [71]) := by simp [bv_append]; rfl
                  simp only [Nat.zero_add] at O8
                  rw [e8] at O8
                  obtain ⟨g, cap, cur, hv8, hg, Bg, e1, e2, e3, e4⟩ := O8.blk (by omega)
                  subst hv8
                  have q0 : (0 : Int) ≤ (o3.xs.length : Int) := by omega
                  have q1 : (o3.xs.length : Int) ≤ (cap : Int) := by omega
                  have O8' := O8.base (base' := w4.heap.size) (by omega)
                  have HO8 := Lib.hid O8'
                  have HF48 := Lib.hid F48
                  clear O8 O8' e8 F48 e4 e3 Bg
                  refine effT_keep HF48.out ?_
                  simp only [pickN, Act.put, List.setIfInBounds_toArray, List.set_cons_zero, List.set_cons_succ]
                  repeat (refine wpT_free ?_ (by rfl) (by rfl) (fun w' => ?_) ?_; rotate_left; (simp only [pickN]; go_simp; rfl); simp only [pickN, Act.put, List.setIfInBounds_toArray, List.set_cons_zero, List.set_cons_succ])
                  exact wpT_done ⟨rfl, _, _, _, _, g, cap, HF48.out, HO8.out, e1, e2, rfl⟩
              · try simp only [pickN]
                refine wpList_buildSlice1 rfl 34 5 _ rfl [.int .u8 0] 1 1 Try.underlying34 info_byteZ (by simp) (by omega) (by omega) _ [.int .u8 71] (by rfl) (by rfl) (by simp) ?_
                intro w5 B5 F5 S5
                have F45 : Fr [] w4 w5 := hS.trans0 F5
                have z5 := F5.size
                refine effT_keep F45 ?_
                simp only [pickN, Act.put, List.setIfInBounds_toArray, List.set_cons_zero, List.set_cons_succ]
                refine wpT_eff (by rfl) ?_
                try simp only [pickN]
                refine wpList_build0 rfl 34 5 1 rfl bytes_build0 ?_
                intro w6 O6 F6 S6
                have F46 : Fr [] w4 w6 := F45.trans0 F6
                have z6 := F6.size
                refine effT_keep F46 ?_
                simp only [pickN, Act.put, List.setIfInBounds_toArray, List.set_cons_zero, List.set_cons_succ]
                refine wpT_eff (by rfl) ?_
                try simp only [pickN]
                refine wpList_appB rfl _ _ 34 34 rfl _ 5 5 .u8 1 Try.underlying34 Try.underlying34 info_byte _ 0 [] (by rfl) O6 o3.a o3.xs.length o3.cap (bv o3.xs) (by rfl) ((hR.fr0 F5).fr0 F6) (by simp) (bv_one _) (by simp only [maxLen]; omega) (by omega) (by omega) ?_
                intro v7 w7 O7 F7 K7 _
                have F47 : Fr [] w4 w7 := F46.trans F7 (fun x hx hlt => by simp at hx; omega)
                have z7 := F7.size
                refine effT_keep F47 ?_
                simp only [pickN, Act.put, List.setIfInBounds_toArray, List.set_cons_zero, List.set_cons_succ]
                refine wpT_eff (by rfl) ?_
                have B7 := (B5.fr F6 (by simp)).fr F7 (by simp; omega)
                try simp only [pickN]
                refine wpList_appB rfl _ _ 34 34 rfl _ 5 5 .u8 1 Try.underlying34 Try.underlying34 info_byte _ (0 + o3.xs.length) ([] ++ bv o3.xs) (by rfl) O7 _ 1 1 [.int .u8 71] (by rfl) (by simpa using B7.rd0 1) (by simp) (by simp [Value.oneCell']) (by simp only [maxLen]; omega) (by omega) (by omega) ?_
                intro v8 w8 O8 F8 K8 _
                have hvb : ∀ x ∈ ob v7, w4.heap.size ≤ x := fun x hx => Nat.le_trans (by omega) (O7.lt hx).1
                have F48 : Fr [] w4 w8 := F47.trans F8 (fun x hx hlt => by have := hvb x hx; omega)
                have e8 : [] ++ bv o3.xs ++ [Value.int .u8 71] = bv (o3.xs ++ [71]) := by simp [bv_append]; rfl
                simp only [Nat.zero_add] at O8
                rw [e8] at O8
                obtain ⟨g, cap, cur, hv8, hg, Bg, e1, e2, e3, e4⟩ := O8.blk (by omega)
                subst hv8
                have q0 : (0 : Int) ≤ (o3.xs.length : Int) := by omega
                have q1 : (o3.xs.length : Int) ≤ (cap : Int) := by omega
                have O8' := O8.base (base' := w4.heap.size) (by omega)
                have HO8 := Lib.hid O8'
                have HF48 := Lib.hid F48
                clear O8 O8' e8 F48 e4 e3 Bg
                refine effT_keep HF48.out ?_
                simp only [pickN, Act.put, List.setIfInBounds_toArray, List.set_cons_zero, List.set_cons_succ]
                repeat (refine wpT_free ?_ (by rfl) (by rfl) (fun w' => ?_) ?_; rotate_left; (simp only [pickN]; go_simp; rfl); simp only [pickN, Act.put, List.setIfInBounds_toArray, List.set_cons_zero, List.set_cons_succ])
                exact wpT_done ⟨rfl, _, _, _, _, g, cap, HF48.out, HO8.out, e1, e2, rfl⟩
            · rename_i hK
              rintro a' w5 ⟨v70, v73, v74, v75, g, cap, F5, O5, e1, e2, rfl⟩
              have hO5 := O5.lt (k := g) (by simp)
              have hz4 := HZ4.out
              have T5 := HS.out.more (HG4.out.trans0 F5) [wr.heap.size, g] (fun x hx => by simp at hx; rcases hx with rfl | rfl <;> right <;> omega)
              have B5 := HB4.out.fr F5 (by simp)
              have k0 : w5.cell? ⟨wr.heap.size, 0, none⟩ = some (.int .i64 o1) := B5.cellAt rfl
              have k1 : w5.cell? ⟨wr.heap.size, 1, none⟩ = some (.int .i64 o2) := B5.cellAt rfl
              have k2 : w5.cell? ⟨wr.heap.size, 2, none⟩ = some (.slice o3.a o3.xs.length o3.cap) := B5.cellAt rfl
              have R5 := HR4.out.fr0 F5
              have HO5 := Lib.hid O5
              have HT5 := Lib.hid T5
              have HB5 := Lib.hid B5
              have HR5 := Lib.hid R5
              have HGO := Lib.hid hO5
              clear O5 T5 B5 R5 hO5 hz4 F5 HB4 HS HT4 HR4 d4
              refine hK _ _ ?_
              simp only [pickN, Act.put, List.setIfInBounds_toArray, List.set_cons_zero, List.set_cons_succ]
              refine wp_seq_join (JoinR W pa ba w3.heap.size wr.heap.size g k w4.heap.size cap o1 o2 o3) ?_ ?_
              · by_cases c0 : o1 = 0
                · subst c0
                  go_wp2_with fail
                  refine (write_all HT5.out.da (by have := HT5.out.fr.size; omega) o2 (some ⟨g, 0, none⟩) o3.xs.length cap o3.xs rfl HO5.out.rdP (by have := HL.out; omega)).mono ?_
                  rintro e w6 ⟨lv6, rfl, D6, F6, K6⟩
                  have T6 := HT5.out.disk D6 _ F6 (fun k hk => hk) K6 (HT5.out.yd.write HY.out)
                  have B6 := HB5.out.fr F6 (HT5.out.far _ (by simp)).2.1
                  have O6 := HO5.out.fr F6 (fun x hx => by simp at hx; subst hx; exact (HT5.out.far _ (by simp)).2.1)
                  have k1 : w6.cell? ⟨wr.heap.size, 1, none⟩ = some (.int .i64 o2) := B6.cellAt rfl
                  have k2 : w6.cell? ⟨wr.heap.size, 2, none⟩ = some (.slice o3.a o3.xs.length o3.cap) := B6.cellAt rfl
                  have R6 : Rd w6 o3.a (bv o3.xs) := HP.out.fr0 T6.fr
                  have HB6 := Lib.hid B6
                  have HO6 := Lib.hid O6
                  have HR6 := Lib.hid R6
                  have HT6 := Lib.hid T6
                  rw [HSim.out.errWrite o2 o3.xs]
                  clear D6 F6 K6 T6 B6 O6 R6 HB5 HT5 HO5 HR5
                  go_wp2_with (first
                    | (refine wpList_loadB rfl 31 _ rfl w3.heap.size (by rfl) 31 cs _ HT6.out.hb Try.underlying31 rfl (by rw [HT6.out.len3]; exact ref_size) ?_))
                  refine (refPut_all HT6.out.ra HT6.out.lt o2 o3.a o3.xs.length o3.cap o3.xs rfl HR6.out (by have := HSim.out.len; have := HL.out; omega)).mono ?_
                  rintro e w7 ⟨cs7, rfl, R7, F7⟩
                  have HR7 := Lib.hid R7
                  have HF7 := Lib.hid F7
                  clear R7 F7
                  go_wp2_with (first
                    | (refine wpList_storeB rfl 31 _ _ rfl w3.heap.size 0 cs7 (by rfl) (by rfl) 31 cs (HT6.out.hb.fr HF7.out (by simp)) (by rw [HR7.out.len3, HT6.out.len3]; omega) (by rw [HR7.out.len3]; exact ref_size) HR7.out.one ?_; intro w8 B8 F8 S8; have HB8 := Lib.hid B8; have HF8 := Lib.hid F8; clear B8 F8 S8))
                  have e8 : splice cs 0 cs7 = cs7 := splice_all _ _ (by rw [HR7.out.len3, HT6.out.len3])
                  have T8 := HT6.out.ref HR7.out HF7.out (e8 ▸ HB8.out) HF8.out
                  have HS8 := Lib.hid (HSim.out.write o2 o3.xs)
                  have HB8o := Lib.hid ((HB6.out.fr HF7.out (by simp)).fr HF8.out (fun h => (HT6.out.far wr.heap.size (by simp)).1 (by simpa using h)))
                  have HO8 := Lib.hid ((HO6.out.fr0 HF7.out).fr HF8.out (fun x hx h => by simp at hx; rw [hx] at h; exact (HT6.out.far g (by simp)).1 (by simpa using h)))
                  have HT8 := Lib.hid T8
                  have hl8 : (d.write o2 o3.xs).2.loose.length ≤ k + 1 := by have := write_loose d o2 o3.xs; have := HL.out; omega
                  have HL8 := Lib.hid hl8
                  generalize (d.write o2 o3.xs).2 = d8 at *
                  generalize (r.put o2 o3.xs).2 = r8 at *
                  generalize (r.put o2 o3.xs).1 = er at *
                  clear T8 e8 hl8 HB8 HF8 HR7 HF7 HT6 HR6 HO6 HB6 HSim HL
                  go_wp2_with fail
                  unfold JoinR
                  exact ⟨_, _, _, _, _, _, _, _, _, _, _, _, _, _, _, _, _, _, _, _, _, _, _, _, _, _, _, _, _, _, _, _, _, _, _, _, _, _, _, _, _, _, HT8.out, HS8.out, HL8.out, HB8o.out, HO8.out, rfl⟩
                · by_cases c2 : o1 = 2
                  · subst c2
                    clear c0
                    go_wp2_with fail
                    refine (sync_calls HT5.out.da).mono ?_
                    rintro e w6 ⟨rfl, D6, F6⟩
                    have T6 : ScrAt W pa ba w3.heap.size [wr.heap.size, g] d.calm r (.slice none 0 0) cs w6 := HT5.out.disk D6 _ F6 (fun k hk => by simp at hk; simp [hk]) (fun k hk => by simp at hk) HT5.out.yd.calm
                    have B6 := HB5.out.fr F6 (fun h => (HT5.out.far wr.heap.size (by simp)).2.1 (by simp at h; simp [h]))
                    have O6 := HO5.out.fr F6 (fun x hx h => by simp at hx; subst hx; exact (HT5.out.far x (by simp)).2.1 (by simp at h; simp [h]))
                    have HB6 := Lib.hid B6
                    have HO6 := Lib.hid O6
                    have HT6 := Lib.hid T6
                    clear D6 T6 B6 O6 HB5 HT5 HO5 HR5
                    go_wp2_with (first
                      | (refine wpList_loadB rfl 31 _ rfl w3.heap.size (by rfl) 31 cs _ HT6.out.hb Try.underlying31 rfl (by rw [HT6.out.len3]; exact ref_size) ?_))
                    refine (refSync_calls HT6.out.ra HT6.out.lt).mono ?_
                    rintro e w7 ⟨cs7, rfl, R7, F7⟩
                    have HR7 := Lib.hid R7
                    have HF7 := Lib.hid F7
                    clear R7 F7
                    go_wp2_with (first
                      | (refine wpList_storeB rfl 31 _ _ rfl w3.heap.size 0 cs7 (by rfl) (by rfl) 31 cs (HT6.out.hb.fr HF7.out (by simp)) (by rw [HR7.out.len3, HT6.out.len3]; omega) (by rw [HR7.out.len3]; exact ref_size) HR7.out.one ?_; intro w8 B8 F8 S8; have HB8 := Lib.hid B8; have HF8 := Lib.hid F8; clear B8 F8 S8))
                    have HS8 := Lib.hid HSim.out.calm
                    have hl8 : d.calm.loose.length ≤ k + 1 := by simp [D.calm]
                    have e8 : splice cs 0 cs7 = cs7 := splice_all _ _ (by rw [HR7.out.len3, HT6.out.len3])
                    have T8 := HT6.out.ref HR7.out HF7.out (e8 ▸ HB8.out) HF8.out
                    have HB8o := Lib.hid ((HB6.out.fr HF7.out (by simp)).fr HF8.out (fun h => (HT6.out.far wr.heap.size (by simp)).1 (by simpa using h)))
                    have HO8 := Lib.hid ((HO6.out.fr0 HF7.out).fr HF8.out (fun x hx h => by simp at hx; rw [hx] at h; exact (HT6.out.far g (by simp)).1 (by simpa using h)))
                    have HT8 := Lib.hid T8
                    have HL8 := Lib.hid hl8
                    generalize d.calm = d8 at *
                    generalize r.calm = r8 at *
                    clear T8 e8 hl8 HB8 HF8 HR7 HF7 HT6 HO6 HB6 HSim HL
                    go_wp2_with fail
                    unfold JoinR
                    exact ⟨_, _, _, _, _, _, _, _, _, _, _, _, _, _, _, _, _, _, _, _, _, _, _, _, _, _, _, _, _, _, _, _, _, _, _, _, _, _, _, _, _, _, HT8.out, HS8.out, HL8.out, HB8o.out, HO8.out, rfl⟩
                  · by_cases c3 : o1 = 3
                    · subst c3
                      clear c0 c2
                      go_wp2_with fail
                      refine (crash_all HT5.out.da o2).mono ?_
                      rintro e w6 ⟨lv6, rfl, D6, F6, K6⟩
                      have T6 := HT5.out.disk D6 _ F6 (fun k hk => by simp at hk; rcases hk with hk | hk <;> simp [hk]) (fun k hk => .inl (K6 k hk)) (HT5.out.yd.crash o2)
                      have B6 := HB5.out.fr F6 (fun h => (HT5.out.far wr.heap.size (by simp)).2.1 (by simp at h; rcases h with h | h <;> simp [h]))
                      have O6 := HO5.out.fr F6 (fun x hx h => by simp at hx; subst hx; exact (HT5.out.far x (by simp)).2.1 (by simp at h; rcases h with h | h <;> simp [h]))
                      have k1 : w6.cell? ⟨wr.heap.size, 1, none⟩ = some (.int .i64 o2) := B6.cellAt rfl
                      have HB6 := Lib.hid B6
                      have HO6 := Lib.hid O6
                      have HT6 := Lib.hid T6
                      rw [Sim.errCrash (d := d) (r := r) o2]
                      clear D6 K6 T6 B6 O6 HB5 HT5 HO5 HR5
                      go_wp2_with (first
                        | (refine wpList_loadB rfl 31 _ rfl w3.heap.size (by rfl) 31 cs _ HT6.out.hb Try.underlying31 rfl (by rw [HT6.out.len3]; exact ref_size) ?_))
                      refine (refCrash_all HT6.out.ra HT6.out.lt o2).mono ?_
                      rintro e w7 ⟨cs7, rfl, R7, F7⟩
                      have HR7 := Lib.hid R7
                      have HF7 := Lib.hid F7
                      clear R7 F7
                      go_wp2_with (first
                        | (refine wpList_storeB rfl 31 _ _ rfl w3.heap.size 0 cs7 (by rfl) (by rfl) 31 cs (HT6.out.hb.fr HF7.out (by simp)) (by rw [HR7.out.len3, HT6.out.len3]; omega) (by rw [HR7.out.len3]; exact ref_size) HR7.out.one ?_; intro w8 B8 F8 S8; have HB8 := Lib.hid B8; have HF8 := Lib.hid F8; clear B8 F8 S8))
                      have HS8 := Lib.hid (HSim.out.crash o2)
                      have hl8 : (d.crash o2).2.loose.length ≤ k + 1 := by
                        have := HL.out
                        unfold D.crash
                        split
                        · simp only; omega
                        · simp
                      generalize (r.crash o2).1 = er at *
                      have e8 : splice cs 0 cs7 = cs7 := splice_all _ _ (by rw [HR7.out.len3, HT6.out.len3])
                      have T8 := HT6.out.ref HR7.out HF7.out (e8 ▸ HB8.out) HF8.out
                      have HB8o := Lib.hid ((HB6.out.fr HF7.out (by simp)).fr HF8.out (fun h => (HT6.out.far wr.heap.size (by simp)).1 (by simpa using h)))
                      have HO8 := Lib.hid ((HO6.out.fr0 HF7.out).fr HF8.out (fun x hx h => by simp at hx; rw [hx] at h; exact (HT6.out.far g (by simp)).1 (by simpa using h)))
                      have HT8 := Lib.hid T8
                      have HL8 := Lib.hid hl8
                      generalize (d.crash o2).2 = d8 at *
                      generalize (r.crash o2).2 = r8 at *
                      clear T8 e8 hl8 HB8 HF8 HR7 HF7 HT6 HO6 HB6 HSim HL
                      go_wp2_with fail
                      unfold JoinR
                      exact ⟨_, _, _, _, _, _, _, _, _, _, _, _, _, _, _, _, _, _, _, _, _, _, _, _, _, _, _, _, _, _, _, _, _, _, _, _, _, _, _, _, _, _, HT8.out, HS8.out, HL8.out, HB8o.out, HO8.out, rfl⟩
                    · have q0 : (o1 == 0) = false := by simpa using c0
                      have q2 : (o1 == 2) = false := by simpa using c2
                      have q3 : (o1 == 3) = false := by simpa using c3
                      clear c0 c2 c3
                      go_wp2_with fail
                      have hl8 : d.loose.length ≤ k + 1 := by have := HL.out; omega
                      obtain ⟨d8, r8, lv6, cs7, HT8, HS8, hl8⟩ : ∃ d8 r8 lv6 cs7, ScrAt W pa ba w3.heap.size [wr.heap.size, g] d8 r8 lv6 cs7 w5 ∧ Sim d8 r8 ∧ d8.loose.length ≤ k + 1 := ⟨d, r, lv, cs, HT5.out, HSim.out, hl8⟩
                      have HT8 := Lib.hid HT8
                      have HS8 := Lib.hid HS8
                      have HL8 := Lib.hid hl8
                      have HO8 := HO5
                      have HB8o := HB5
                      clear hl8 HT5 HO5 HB5 HR5 HSim HL q0 q2 q3
                      go_wp2_with fail
                      unfold JoinR
                      exact ⟨_, _, _, _, _, _, _, _, _, _, _, _, _, _, _, _, _, _, _, _, _, _, _, _, _, _, _, _, _, _, _, _, _, _, _, _, _, _, _, _, _, _, HT8.out, HS8.out, HL8.out, HB8o.out, HO8.out, rfl⟩
              · intro a' w8 hj
                unfold JoinR at hj
                obtain ⟨v80, v81, v82, v83, v84, v85, v86, v87, v88, v89, v90, v91, v92, v93, v94, v95, v96, v97, v98, v99, v100, v101, v102, v103, v104, v105, v106, v107, v108, v109, v110, v111, v112, v113, v114, v115, v116, er, d8, r8, lv6, cs7, t8, s8, l8, b8, o8, rfl⟩ := hj
                have HT8 := Lib.hid t8
                have HS8 := Lib.hid s8
                have HL8 := Lib.hid l8
                have HB8o := Lib.hid b8
                have HO8 := Lib.hid o8
                clear t8 s8 l8 b8 o8 HT5 HO5 HB5 HR5 HSim HL k0 k1 k2
                simp only [List.take_succ_cons, List.take_zero, List.drop_succ_cons, List.drop_zero, List.cons_append, List.nil_append]
                go_wp2_with fail
                generalize hwo : wr.heap.size = wo at *
                have R0 : Xr w8 w4.heap.size g o3.xs.length cap (.int .i64 (0 : Nat)) w8 := ⟨0, o3.xs, Nat.zero_le _, rfl, rfl, HO8.out, Fr.refl _ _⟩
                have HR0x := Lib.hid R0
                clear R0 HO8
                go_loopw [119] (fun i wx => Xr w8 w4.heap.size g o3.xs.length cap i wx) (fun i _ => o3.xs.length - (intOf i).toNat)
                case atStart => exact HR0x.out
                case round =>
                  obtain ⟨j, l, hj, rfl, hl, hO, hF⟩ := hrel
                  by_cases hltj : j < o3.xs.length
                  · obtain ⟨g', cap', cur, x, hv, hg', hB, hn, hx, hc, hset⟩ := hO.byteAt j (by omega)
                    simp only [Value.slice.injEq] at hv
                    obtain ⟨hge, _, rfl⟩ := hv
                    simp only [Option.some.injEq, Addr.mk.injEq, and_true] at hge
                    subst hge
                    have j0 : (0 : Int) ≤ (j : Int) := by omega
                    have j1 : (j : Int) < (o3.xs.length : Int) := by omega
                    have HB := Lib.hid hB
                    have HSET := Lib.hid hset
                    have HFx := Lib.hid hF
                    have HLX := Lib.hid hl
                    have hnj : j < cur.length := by omega
                    clear hB hset hF hl hx hO
                    go_wp2_with (refine wpList_store1 rfl 5 _ _ rfl g j _ (by rfl) (by rfl) rfl 5 cur HB.out hnj (by kernel_rfl) rfl ?_; intro w9 B9 F9 S9)
                    have O9 := HSET.out w9 _ B9
                    rw [List.set_append_left _ _ (by have := HLX.out; omega)] at O9
                    have R9 : Xr w8 w4.heap.size g o3.xs.length cap (.int .i64 (j + 1 : Nat)) w9 := ⟨j + 1, _, by omega, rfl, by simpa using HLX.out, O9, HFx.out.trans1 F9⟩
                    have H9 := Lib.hid R9
                    clear R9 O9 B9 F9
                    first
                      | (go_roundw <;> first | exact H9.out | (simp [intOf]; omega))
                      | (refine ⟨⟨_, _, _, _, _, _, _, _, _, _, _, H9.out, rfl⟩, ?_⟩
                         show o3.xs.length - (intOf (.int .i64 ((j + 1 : Nat) : Int))).toNat < o3.xs.length - (intOf (.int .i64 (j : Int))).toNat
                         simp [intOf]
                         omega)
                  · have T10 := HT8.out.own [g] hF (by simp)
                    have hne : wo ∉ [g] := fun h => by simp at h; have := HGO.out; have := HZ4.out; omega
                    have B10 := HB8o.out.fr hF hne
                    have k1 : wr.cell? ⟨wo, 1, none⟩ = some (.int .i64 o2) := B10.cellAt rfl
                    have HT10 := Lib.hid T10
                    have HO10 := Lib.hid hO
                    have HB10 := Lib.hid B10
                    have HLX := Lib.hid hl
                    have hltj2 : ¬ (j : Int) < (o3.xs.length : Int) := by omega
                    clear T10 hne B10 hF hO hl HT8 HB8o
                    go_wp2_with fail
                    refine (read_all HT10.out.da o2).mono ?_
                    rintro e w11 ⟨v11, rfl, O11, F11⟩
                    have T11 := HT10.out.calm F11
                    have k1 : w11.cell? ⟨wo, 1, none⟩ = some (.int .i64 o2) := (HB10.out.fr F11 (by simp)).cellAt rfl
                    have HT11 := Lib.hid T11
                    have HO11 := Lib.hid O11
                    have HF11 := Lib.hid F11
                    clear T11 O11 F11
                    go_wp2_with (first
                      | (refine wpList_loadB rfl 31 _ rfl w3.heap.size (by rfl) 31 cs7 _ HT11.out.hb Try.underlying31 rfl (by rw [HT11.out.len3]; exact ref_size) ?_))
                    refine (refRead_calls HT11.out.ra o2).mono ?_
                    rintro e w12 ⟨v12, rfl, O12, F12⟩
                    have T12 := HT11.out.calm F12
                    have O11' := HO11.out.fr0 F12
                    have hby := HT11.out.yd.read o2
                    rw [HS8.out.read o2] at O11' hby ⊢
                    generalize hX : (r8.read o2).1 = X at *
                    generalize hE : (r8.read o2).2 = E at *
                    obtain ⟨a11, c11, hv11, _, _, r11⟩ := O11'.form
                    obtain ⟨a12, c12, hv12, _, _, r12⟩ := O12.form
                    rw [hv11, hv12]
                    obtain ⟨na', sa', la', nc', sc', lc', m', hcs', hb1, hb2⟩ := T12.ra.cells
                    have c0 : ∀ w', Fr [] w12 w' → w'.cell? ⟨w3.heap.size, 0, none⟩ = some (.slice na' r8.now.length nc') := fun w' f => (T12.hb.fr f (by simp)).cellAt (by rw [hcs']; rfl)
                    have c2 : ∀ w', Fr [] w12 w' → w'.cell? ⟨w3.heap.size, 2, none⟩ = some (.slice la' r8.loose.length lc') := fun w' f => (T12.hb.fr f (by simp)).cellAt (by rw [hcs']; rfl)
                    have O12p := (HO10.out.fr0 HF11.out).fr0 F12
                    have c9 : ∀ w', Fr [] w12 w' → w'.cell? ⟨g, o3.xs.length, none⟩ = some (.int .u8 71) := fun w' f => by
                      obtain ⟨g', cap', cur, x, hv, _, _, _, hx, hc, _⟩ := (O12p.fr0 f).byteAt o3.xs.length (by omega)
                      simp only [Value.slice.injEq, Option.some.injEq, Addr.mk.injEq] at hv
                      obtain ⟨⟨rfl, _⟩, _, _⟩ := hv
                      rw [List.getElem?_append_right (by have := HLX.out; omega), show o3.xs.length - l.length = 0 by have := HLX.out; omega] at hx
                      simp only [List.getElem?_cons_zero, Option.some.injEq] at hx
                      rw [hc, ← hx]
                    have q0 : (0 : Int) ≤ (o3.xs.length : Int) := by omega
                    have q1 : (o3.xs.length : Int) + 1 ≤ (cap : Int) := by omega
                    have q2 : (0 : Int) ≤ (o3.xs.length : Int) + 1 := by omega
                    have q3 : (o3.xs.length : Int) < (o3.xs.length : Int) + 1 := by omega
                    have qw : IntKind.i64.wrap ((o3.xs.length : Int) + 1) = (o3.xs.length : Int) + 1 := by rw [IntKind.wrap_i64]; omega
                    have q4 : (o3.xs.length : Int) < (cap : Int) := by omega
                    have HT12 := Lib.hid T12
                    have HR11 := Lib.hid r11
                    have HR12 := Lib.hid r12
                    have HBY := Lib.hid hby
                    have HO12 := Lib.hid O12
                    clear T12 O11' O12 hv11 hv12 r11 r12 hcs' O12p hby HT11 HO11 HT10 HO10 HB10 k1
                    go_wp2_with fail
                    refine wp_region_ord (Fr [] w12) [0,1,2,3,4,5,6,7,8,9,10,11,12,13,14,15,17,18,19,16,20,21,22,23,25,26,27,24,28,29,30,31,32,33,34,35,36,37,38,39,40,41] [] [11, 16, 24] [18, 26, 39] mixed (by kernel_rfl) ?_
                    have hS : Fr [] w12 w12.drew := (Fr.refl _ _).drew
                    simp only [pairs, pickN]
                    repeat (first | (refine wpO_free ?_ (by rfl) (by rfl) (fun w' => ?_) ?_; rotate_left; (go_simp; rfl); simp only [Act.put, List.setIfInBounds_toArray, List.set_cons_zero, List.set_cons_succ]) | (refine wpO_take ?_ hS (by rfl) (by rfl) (fun w' hw' => ?_) ?_; rotate_left; (go_simp; rfl); simp only [Act.put, List.setIfInBounds_toArray, List.set_cons_zero, List.set_cons_succ]) | (refine wpO_pass (by rfl) ?_; simp only [Act.put, List.setIfInBounds_toArray, List.set_cons_zero, List.set_cons_succ]))
                    refine wpO_eff (by rfl) ?_
                    refine wpList_callG (by rfl) 18 #[.slice a11 X.length c11, .slice a12 X.length c12] (by first | (go_simp; done) | (go_simp; rfl)) _ (bytes_calls w12.drew a11 a12 c11 c12 X.length X.length X X rfl rfl HBY.out HBY.out (HR11.out.fr0 hS) (HR12.out.fr0 hS)) ?_
                    rintro e w' ⟨rfl, rfl⟩
                    refine ⟨_, rfl, effQ_keep hS ?_⟩
                    simp only [decide_true]
                    simp only [Act.put, List.setIfInBounds_toArray, List.set_cons_zero, List.set_cons_succ]
                    repeat (first | (refine wpO_free ?_ (by rfl) (by rfl) (fun w' => ?_) ?_; rotate_left; (go_simp; rfl); simp only [Act.put, List.setIfInBounds_toArray, List.set_cons_zero, List.set_cons_succ]) | (refine wpO_take ?_ hS (by rfl) (by rfl) (fun w' hw' => ?_) ?_; rotate_left; (go_simp; rfl); simp only [Act.put, List.setIfInBounds_toArray, List.set_cons_zero, List.set_cons_succ]) | (refine wpO_pass (by rfl) ?_; simp only [Act.put, List.setIfInBounds_toArray, List.set_cons_zero, List.set_cons_succ]))
                    refine wpO_eff (by rfl) ?_
                    refine wpList_callG (by rfl) 19 #[.pointer (some ⟨pa, 0, none⟩)] (by first | (go_simp; done) | (go_simp; rfl)) _ (loose_calls (HT12.out.da.fr0 hS)) ?_
                    rintro e w' ⟨rfl, rfl⟩
                    refine ⟨_, rfl, effQ_keep hS ?_⟩
                    rw [HS8.out.len]
                    simp only [Act.put, List.setIfInBounds_toArray, List.set_cons_zero, List.set_cons_succ]
                    repeat (first | (refine wpO_free ?_ (by rfl) (by rfl) (fun w' => ?_) ?_; rotate_left; (go_simp; rfl); simp only [Act.put, List.setIfInBounds_toArray, List.set_cons_zero, List.set_cons_succ]) | (refine wpO_take ?_ hS (by rfl) (by rfl) (fun w' hw' => ?_) ?_; rotate_left; (go_simp; rfl); simp only [Act.put, List.setIfInBounds_toArray, List.set_cons_zero, List.set_cons_succ]) | (refine wpO_pass (by rfl) ?_; simp only [Act.put, List.setIfInBounds_toArray, List.set_cons_zero, List.set_cons_succ]))
                    refine wpO_eff (by rfl) ?_
                    refine wpList_callG (by rfl) 20 #[.pointer (some ⟨pa, 0, none⟩)] (by first | (go_simp; done) | (go_simp; rfl)) _ (blocks_calls (HT12.out.da.fr0 hS)) ?_
                    rintro e w' ⟨rfl, rfl⟩
                    refine ⟨_, rfl, effQ_keep hS ?_⟩
                    rw [HS8.out.size]
                    simp only [Act.put, List.setIfInBounds_toArray, List.set_cons_zero, List.set_cons_succ]
                    repeat (first | (refine wpO_free ?_ (by rfl) (by rfl) (fun w' => ?_) ?_; rotate_left; (go_simp; rfl); simp only [Act.put, List.setIfInBounds_toArray, List.set_cons_zero, List.set_cons_succ]) | (refine wpO_take ?_ hS (by rfl) (by rfl) (fun w' hw' => ?_) ?_; rotate_left; (go_simp; rfl); simp only [Act.put, List.setIfInBounds_toArray, List.set_cons_zero, List.set_cons_succ]) | (refine wpO_pass (by rfl) ?_; simp only [Act.put, List.setIfInBounds_toArray, List.set_cons_zero, List.set_cons_succ]))
                    refine wpO_nil ?_
                    have R13 : Scr W pa ba w3.heap.size ops.xs.length (.int .i64 (k + 1 : Nat)) w12.drew := ⟨k + 1, by omega, rfl, d8, r8, _, cs7, HT12.out.more hS [] (by simp), HS8.out, HL8.out⟩
                    have HR13 := Lib.hid R13
                    clear R13 HT12 HO12 HR11 HR12 HBY c0 c2 c9 hS F12 HF11
                    go_wp2_with fail
                    go_roundw
                    case rel => exact HR13.out
                    case measure => simp [intOf]; omega
          · have hi : ¬ (k : Int) < (ops.xs.length : Int) := by omega
            have hF := hS.fr
            clear hS hSim
            go_wp2_with fail
            go_ret
            exact ⟨rfl, hF.below (Nat.le_refl _) (by simp)⟩
end Go.Fur
