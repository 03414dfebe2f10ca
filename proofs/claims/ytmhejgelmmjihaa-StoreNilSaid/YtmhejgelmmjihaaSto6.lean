/- The used bytes of a half's blocks: the iterator. -/
import Derived.Test.YtmhejgelmmjihaaSto5
import Derived.Test.YtmhejgelmmjihaaSeqN
import Derived.RangeFuncBound
import Derived.RangeFuncLeaves
import Derived.Shelf.Abstract
import Derived.OwnWalkIn
import Derived.TacticsInMore
import Derived.LoopNIn
import Derived.LoopIn
namespace Go.Fur
open Go Go.RowKit Go.Proofs
attribute [local go_sem] Oper.semAt_some
set_option linter.unusedVariables false
set_option linter.unusedSimpArgs false
theorem blks_calls (w : World) (q : Nat) :
    Calls Try.prog 28 #[.pointer (some ⟨q, 0, none⟩)] w fun e w' => e = .returned (.func (.func 39) #[] #[.pointer (some ⟨w.heap.size, 0, none⟩)]) ∧
      Blk w' w.heap.size 31 [.pointer (some ⟨q, 0, none⟩)] ∧ Fr [] w w' ∧ w'.heap.size = w.heap.size + 1 := by
  go_enter Try.func28, Try.ntmps28
  go_wp2_with fail
  go_ret
  exact ⟨rfl, Blk.new w 31 [.pointer (some ⟨q, 0, none⟩)], (Fr.refl [] w).alloc _, by simp⟩
def usedB (b : List Int) : Nat := (b.getD 8 0).toNat
/-- The used bytes of the blocks f i, f (i + 1), .. (n at most), as long as they go on. -/
def goB (f : Nat → List Int) (gen : Nat) : Nat → Nat → Nat → List (List Int)
  | 0, _, _ => []
  | n + 1, i, last =>
    if four4 (f i) 0 ≠ gen ∨ four4 (f i) 4 < last ∨ 55 < usedB (f i) then []
    else ((f i).drop 9).take (usedB (f i)) :: (if usedB (f i) < 55 then [] else goB f gen n (i + 1) (four4 (f i) 4))
/-- The blocks of a generation's half. -/
def halfB (d : D) (gen : Nat) (i : Nat) : List Int := d.now.getD (placeP d gen i) []
def readB (d : D) (gen : Nat) : List (List Int) := goB (halfB d gen) gen (halfP d) 0 0
abbrev SB := (Nat × Value) × List Int
/-- What is told: a slice of a block that was read. -/
def ElB (x : SB) (W : World) : Prop := ∃ g cap b base, Own W base 5 1 (.slice (some ⟨g, 0, none⟩) 64 cap) 64 (bv b) ∧ x.1.2 = .slice (some ⟨g, 9, none⟩) x.2.length (cap - 9) ∧ x.2 = (b.drop 9).take x.2.length ∧ x.2.length ≤ 55 ∧ Byt b
theorem placeP_lt (d : D) (gen k : Nat) (h : k < halfP d) : placeP d gen k < d.now.length := by
  unfold placeP
  unfold halfP at *
  rcases Nat.mod_two_eq_zero_or_one gen with h1 | h1 <;> rw [h1] <;> omega
theorem DiskAt.frX {X : Nat → Prop} {w w' : World} {base p bb : Nat} {lv : Value} {d : D} (h : DiskAt w base p bb lv d) (f : FrX X w w') (hp : ¬ X p) (hb : ¬ X bb) (hl : ∀ k ∈ ob lv, ¬ X k) : DiskAt w' base p bb lv d := by
  obtain ⟨T, f, hT⟩ := f
  exact h.fr f (fun hm => hp (hT _ hm)) (fun hm => hb (hT _ hm)) (fun k hk hm => hl k hk (hT _ hm))
structure BRel (w : World) (X : Nat → Prop) (J : List SB → World → Prop) (base p bb q B1 : Nat) (lv tail : Value) (d : D) (gen : Nat) (life at_ count safe : Int) (k last : Nat) (pre : List SB) (wr : World) : Prop where
  le : k ≤ halfP d
  len : pre.length = k
  j : J pre wr
  da : DiskAt wr base p bb lv d
  hq : Blk wr q 67 (sto p gen life tail at_ count safe)
  b1 : Blk wr B1 31 [.pointer (some ⟨q, 0, none⟩)]
  sz : w.heap.size ≤ wr.heap.size
  e1 : readB d gen = pre.map Prod.snd ++ goB (halfB d gen) gen (halfP d - k) k last
  lt : last < 4294967296
set_option maxRecDepth 100000 in
set_option maxHeartbeats 4000000 in
theorem blks1_seq {w : World} {X : Nat → Prop} {base p bb q B1 : Nat} {lv tail : Value} {d : D} {gen : Nat} {life at_ count safe : Int} (hd : DiskAt w base p bb lv d) (hby : ∀ b ∈ d.now, Byt b) (hq : Blk w q 67 (sto p gen life tail at_ count safe)) (hg : gen < 4294967296)
    (h1 : Blk w B1 31 [.pointer (some ⟨q, 0, none⟩)]) (hX : ∀ k, X k → k ≠ p ∧ k ≠ bb ∧ k ≠ q ∧ k ≠ B1 ∧ k ∉ ob lv) :
    SeqFrN Try.prog 39 #[.pointer (some ⟨B1, 0, none⟩)] (fun x : SB => #[.int .i64 x.1.1, x.1.2]) ElB [] X 65536 (fun xs W => xs.map Prod.snd = readB d gen) w := by
  intro y J W hW hJ hY h0
  have hhalf : halfP d ≤ 32768 := by have := hd.wf.max; unfold halfP; omega
  have HHf := Lib.hid (fun (W : World) (f : Fr [] w W) => half_calls (hd.fr0 f) (hq.fr f (by simp)))
  have R0 : BRel w X J base p bb q B1 lv tail d gen life at_ count safe 0 0 [] W :=
    ⟨Nat.zero_le _, rfl, h0, hd.fr0 hW, hq.fr hW (by simp), h1.fr hW (by simp), hW.size, by simp [readB], by omega⟩
  have c1 : W.cell? ⟨B1, 0, none⟩ = some (.pointer (some ⟨q, 0, none⟩)) := R0.b1.cellAt rfl
  have HR0 := Lib.hid R0
  have HE := Lib.hid (And.intro hJ hY)
  have HW := Lib.hid hW
  have HY := Lib.hid hby
  have HXX := Lib.hid hX
  clear R0 hJ hY hW hby h0 hd hq h1 hX
  refine callsIn_of_wp Try.func39 rfl trivial ?_ rfl
  simp only [Try.ntmps39, List.size_toArray, List.length_cons, List.length_nil, Nat.reduceAdd, Nat.reduceSub, Array.replicate_succ, Array.replicate_zero, List.push_toArray, List.append_toArray, List.nil_append, List.cons_append]
  gi_wp2
  refine ⟨trivial, (callsIn_wide.2 (HHf.out W HW.out)).mono ?_⟩
  rintro e w1 ⟨rfl, rfl⟩
  gi_wp2
  gi_loopw [3, 12] (fun l i wr => ∃ k last pre, i = .int .i64 (k : Nat) ∧ l = .int .u32 (last : Nat) ∧ BRel w X J base p bb q B1 lv tail d gen life at_ count safe k last pre wr) (fun _ i _ => halfP d - (intOf i).toNat)
  case atStart => exact ⟨0, 0, [], rfl, rfl, HR0.out⟩
  case round =>
    obtain ⟨k, last, pre, rfl, rfl, hT⟩ := hrel
    have hkm := hT.le
    by_cases hlt : k < halfP d
    · have kb : (k : Int) < (halfP d : Int) := by omega
      have d1 : ∀ W', Fr [] wr W' → W'.cell? ⟨B1, 0, none⟩ = some (.pointer (some ⟨q, 0, none⟩)) := fun W' f => (hT.b1.fr f (by simp)).cellAt rfl
      have d2 : ∀ W', Fr [] wr W' → W'.cell? ⟨q, 0, none⟩ = some (.pointer (some ⟨p, 0, none⟩)) := fun W' f => (hT.hq.fr f (by simp)).cellAt rfl
      obtain ⟨b, hnb⟩ : ∃ b, d.now[placeP d gen k]? = some b := by
        have hp1 : placeP d gen k < d.now.length := placeP_lt d gen k hlt
        exact ⟨_, List.getElem?_eq_getElem hp1⟩
      have hfb : halfB d gen k = b := by unfold halfB; rw [List.getD_eq_getElem?_getD, hnb]; rfl
      have hlen : b.length = 64 := hT.da.wf.now b (List.mem_of_getElem? hnb)
      have hyb := HY.out b (List.mem_of_getElem? hnb)
      have HNB := Lib.hid hnb
      have HL := Lib.hid hlen
      have HYB := Lib.hid hyb
      have HFB := Lib.hid hfb
      have HT := Lib.hid hT
      clear hT hnb hlen hyb hfb c1
      gi_wp2
      refine wpIn_wide.2 ?_
      refine wp_region_ord (Fr [] wr) [0,1,2,3,4,5,6,7,8,9,10,11,12] [] [6, 7] [0, 3, 4] mixed (by kernel_rfl) ?_
      have hS : Fr [] wr wr.drew := (Fr.refl _ _).drew
      simp only [pairs, pickN]
      repeat (first | (refine wpO_free ?_ (by rfl) (by rfl) (fun w' => ?_) ?_; rotate_left; (go_simp; rfl); simp only [Act.put, List.setIfInBounds_toArray, List.set_cons_zero, List.set_cons_succ]) | (refine wpO_take ?_ hS (by rfl) (by rfl) (fun w' hw' => ?_) ?_; rotate_left; (go_simp; rfl); simp only [Act.put, List.setIfInBounds_toArray, List.set_cons_zero, List.set_cons_succ]) | (refine wpO_pass (by rfl) ?_; simp only [Act.put, List.setIfInBounds_toArray, List.set_cons_zero, List.set_cons_succ]))
      refine wpO_eff (by rfl) ?_
      refine wpList_callC rfl 40 #[.pointer (some ⟨q, 0, none⟩), .int .i64 k] (by first | (go_simp; done) | (go_simp; rfl)) _ (place_calls (HT.out.da.fr0 hS) (HT.out.hq.fr hS (by simp)) k (by omega)) ?_
      rintro e w2 ⟨rfl, nk, rfl⟩
      have hS2 : Fr [] wr (wr.drew.drewN nk) := hS.drewN nk
      refine ⟨_, rfl, effQ_keep hS2 ?_⟩
      simp only [Act.put, List.setIfInBounds_toArray, List.set_cons_zero, List.set_cons_succ]
      refine wpO_eff (by rfl) ?_
      refine wpList_callC rfl 38 #[.pointer (some ⟨p, 0, none⟩), .int .i64 (placeP d gen k)] (by first | (go_simp; done) | (go_simp; rfl)) _ (read_calls (HT.out.da.fr0 hS2) (placeP d gen k) b HNB.out) ?_
      rintro e w3 ⟨g, cap, rfl, O3, F3⟩
      have hS3 : Fr [] wr w3 := hS2.trans0 F3
      have HO3 := Lib.hid O3
      have HS3 := Lib.hid hS3
      refine ⟨_, rfl, effQ_keep hS3 ?_⟩
      simp only [Act.put, List.setIfInBounds_toArray, List.set_cons_zero, List.set_cons_succ]
      clear O3 F3 hS hS2
      repeat (first | (refine wpO_free ?_ (by rfl) (by rfl) (fun w' => ?_) ?_; rotate_left; (go_simp; rfl); simp only [Act.put, List.setIfInBounds_toArray, List.set_cons_zero, List.set_cons_succ]) | (refine wpO_pass (by rfl) ?_; simp only [Act.put, List.setIfInBounds_toArray, List.set_cons_zero, List.set_cons_succ]))
      refine wpO_nil ?_
      clear hS3
      have hc3 : 64 ≤ cap ∧ cap ≤ maxLen := (HO3.out.rdS (X := fun _ => False) (fun _ _ h => h)).2
      obtain ⟨hc2, hm2⟩ := hc3
      have HM := Lib.hid hm2
      have hm3 : cap ≤ 9223372036854775807 := by unfold maxLen at hm2; exact hm2
      clear hm2
      have hr3 : Rd w3 (some ⟨g, 0, none⟩) (bv b) := (HO3.out.rdS (X := fun _ => False) (fun _ _ h => h)).1.rd
      have hsl : ∀ i W', Fr [] w3 W' → Rd W' (some ⟨g, i, none⟩) (bv (b.drop i)) := fun i W' f => by
        rw [bv_drop]
        have := (hr3.fr0 f).dropN i
        simpa using this
      have HSL := Lib.hid hsl
      obtain ⟨y8, hy8⟩ : ∃ y8, b[8]? = some y8 := ⟨b[8]'(by rw [HL.out]; omega), List.getElem?_eq_getElem (by rw [HL.out]; omega)⟩
      have hyb8 := HYB.out y8 (List.mem_of_getElem? hy8)
      obtain ⟨us, rfl⟩ := Int.eq_ofNat_of_zero_le hyb8.1
      have hus : us < 256 := by omega
      have hub : usedB b = us := by unfold usedB; rw [List.getD_eq_getElem?_getD, hy8]; rfl
      have HUB := Lib.hid hub
      have e8 : ∀ W', Fr [] w3 W' → W'.cell? ⟨g, 8, none⟩ = some (.int .u8 us) := fun W' f => by
        obtain ⟨b1, o1, he, hr⟩ := (hr3.fr0 f) (fun h0 => by have := congrArg List.length h0; rw [bv_length, HL.out] at this; simp at this)
        simp only [Option.some.injEq, Addr.mk.injEq] at he
        obtain ⟨rfl, rfl, _⟩ := he
        have := hr 8 (.int .u8 us) (by rw [bv_get, hy8]; rfl)
        simpa using this
      have hx0 := four4_lt HYB.out 0
      have hx4 := four4_lt HYB.out 4
      have hc4 : ¬ cap = 4 := by omega
      have hc9 : ¬ cap = 9 := by omega
      clear hsl hr3 hy8 hyb8 hub
      gi_wp2
      refine wpIn_wide.2 ?_
      refine wp_region_ord (Fr [] w3) [0,2,3,5,6,7,8,1,4,9,10,11] [] [1, 4] [7] mixed (by kernel_rfl) ?_
      have hS : Fr [] w3 w3.drew := (Fr.refl _ _).drew
      simp only [pairs, pickN]
      repeat (first | (refine wpO_free ?_ (by rfl) (by rfl) (fun w' => ?_) ?_; rotate_left; (go_simp; rfl); simp only [Act.put, List.setIfInBounds_toArray, List.set_cons_zero, List.set_cons_succ]) | (refine wpO_take ?_ hS (by rfl) (by rfl) (fun w' hw' => ?_) ?_; rotate_left; (go_simp; rfl); simp only [Act.put, List.setIfInBounds_toArray, List.set_cons_zero, List.set_cons_succ]) | (refine wpO_pass (by rfl) ?_; simp only [Act.put, List.setIfInBounds_toArray, List.set_cons_zero, List.set_cons_succ]))
      refine wpO_eff (by rfl) ?_
      refine wpList_callC rfl 29 #[.slice (some ⟨g, 0, none⟩) 64 cap] (by first | (go_simp; done) | (go_simp; rfl)) _ (four4_calls (b := b) (i := 0) (HSL.out 0 _ hS) HYB.out (by rw [HL.out]; omega) (by omega) hc2 HM.out) ?_
      rintro e w4 ⟨rfl, nk1, rfl⟩
      refine ⟨_, rfl, effQ_keep (hS.drewN nk1) ?_⟩
      simp only [Act.put, List.setIfInBounds_toArray, List.set_cons_zero, List.set_cons_succ]
      refine wpO_eff (by rfl) ?_
      refine wpList_callC rfl 29 #[.slice (some ⟨g, 4, none⟩) 60 (cap - 4)] (by first | (go_simp; done) | (go_simp; rfl)) _ (four4_calls (b := b) (i := 4) (HSL.out 4 _ (hS.drewN nk1)) HYB.out (by rw [HL.out]; omega) (by omega) (by omega) (by have := HM.out; omega)) ?_
      rintro e w5 ⟨rfl, nk2, rfl⟩
      have hS4 := (hS.drewN nk1).drewN nk2
      refine ⟨_, rfl, effQ_keep hS4 ?_⟩
      simp only [Act.put, List.setIfInBounds_toArray, List.set_cons_zero, List.set_cons_succ]
      repeat (first | (refine wpO_free ?_ (by rfl) (by rfl) (fun w' => ?_) ?_; rotate_left; (go_simp; rfl); simp only [Act.put, List.setIfInBounds_toArray, List.set_cons_zero, List.set_cons_succ]) | (refine wpO_pass (by rfl) ?_; simp only [Act.put, List.setIfInBounds_toArray, List.set_cons_zero, List.set_cons_succ]))
      refine wpO_nil ?_
      have HS5 := Lib.hid (HS3.out.trans0 hS4)
      have HS4 := Lib.hid hS4
      clear hS4 hS
      generalize (w3.drew.drewN nk1).drewN nk2 = w5 at *
      have g1 : ∀ W', Fr [] w5 W' → W'.cell? ⟨B1, 0, none⟩ = some (.pointer (some ⟨q, 0, none⟩)) := fun W' f => d1 W' (HS5.out.trans0 f)
      have c1 := g1 w5 (Fr.refl _ _)
      have c2 : w5.cell? ⟨q, 1, none⟩ = some (.int .u32 gen) := (HT.out.hq.fr HS5.out (by simp)).cellAt rfl
      clear g1 d1 d2 e8
      obtain ⟨m, hm⟩ : ∃ m, halfP d - k = m + 1 := ⟨halfP d - k - 1, by omega⟩
      have e1 := HT.out.e1
      rw [hm, goB, HFB.out, HUB.out] at e1
      have J5 := HE.out.1 pre _ _ HT.out.j HS5.out
      by_cases hgo : four4 b 0 = gen ∧ last ≤ four4 b 4 ∧ us ≤ 55
      · rw [if_neg (by omega)] at e1
        have hlx : ((b.drop 9).take us).length = us := by rw [List.length_take, List.length_drop, HL.out]; omega
        obtain ⟨fn, tmps, assign, body, hy, hR⟩ := HE.out.2 pre ((k, .slice (some ⟨g, 9, none⟩) us (cap - 9)), (b.drop 9).take us) w5 J5 ⟨g, cap, b, _, HO3.out.fr0 HS4.out, by dsimp only; rw [hlx], by dsimp only; rw [hlx], by dsimp only; rw [hlx]; exact hgo.2.2, HYB.out⟩ (by have := HT.out.len; omega)
        dsimp only at hy
        have hb1 : ((four4 b 0 : Int) != (gen : Int)) = false := by rw [hgo.1]; simp
        have hgo2 := hgo.2.1
        have hgo3 : (us : Int) ≤ 55 := by omega
        have HGO := Lib.hid hgo
        have HRR := Lib.hid hR
        have HE1 := Lib.hid e1
        have HM1 := Lib.hid hm
        clear hR hgo e1 J5 hm hlx
        gi_wp2
        refine HRR.out.mono ?_
        rintro e w6 ⟨rfl, hJ6, hk6⟩
        have hBt := HT.out.len
        have hXp := HXX.out
        have hda := (HT.out.da.fr0 HS5.out).frX hk6 (fun h => (hXp _ h).1 rfl) (fun h => (hXp _ h).2.1 rfl) (fun g hg h => (hXp _ h).2.2.2.2 hg)
        have hhq := (HT.out.hq.fr HS5.out (by simp)).frX hk6 (fun h => (hXp _ h).2.2.1 rfl)
        have hb1' := (HT.out.b1.fr HS5.out (by simp)).frX hk6 (fun h => (hXp _ h).2.2.2.1 rfl)
        have hsz6 : w.heap.size ≤ w6.heap.size := by have := HT.out.sz; have := HS5.out.size; have := hk6.size; omega
        have HA := Lib.hid (And.intro hJ6 (And.intro hda (And.intro hhq (And.intro hb1' hsz6))))
        clear hJ6 hk6 hXp hda hhq hb1' hy c1 c2 hb1 hgo2
        by_cases h55 : us < 55
        · have h55' : (us : Int) < 55 := by omega
          have HE2 : Hid (readB d gen = List.map Prod.snd pre ++ [(b.drop 9).take us]) := Lib.hid (by rw [HE1.out, if_pos h55])
          gi_wp2
          refine bodyPost_ret (results_none rfl _ _ _) rfl ?_
          exact ⟨⟨_, rfl⟩, _, HA.out.1, by rw [HE2.out]; simp⟩
        · have h55' : ¬ (us : Int) < 55 := by omega
          have R6 := Lib.hid (show BRel w X J base p bb q B1 lv tail d gen life at_ count safe (k + 1) (four4 b 4) (pre ++ [((k, .slice (some ⟨g, 9, none⟩) us (cap - 9)), (b.drop 9).take us)]) w6 from
            ⟨hlt, by rw [List.length_append, hBt]; rfl, HA.out.1, HA.out.2.1, HA.out.2.2.1, HA.out.2.2.2.1, HA.out.2.2.2.2, by rw [HE1.out, if_neg h55, show halfP d - (k + 1) = m by have := HM1.out; omega]; simp, hx4⟩)
          gi_wp2
          go_roundw
          case rel => exact ⟨k + 1, _, _, by go_num, rfl, R6.out⟩
          case measure => simp [intOf]; omega
      · rw [if_pos (by omega)] at e1
        have HGO := Lib.hid hgo
        have HE1 := Lib.hid e1
        have HM1 := Lib.hid hm
        have HJ5 := Lib.hid J5
        clear hgo e1 hm J5
        gi_wp2
        all_goals first
          | (exfalso; have := HGO.out; omega)
          | exact bodyPost_ret (results_none rfl _ _ _) rfl ⟨⟨_, rfl⟩, pre, HJ5.out, by rw [HE1.out, List.append_nil]⟩
    · obtain rfl : k = halfP d := by omega
      have HT := Lib.hid hT
      clear hT
      gi_wp2
      go_end0
      refine ⟨⟨_, rfl⟩, pre, HT.out.j, ?_⟩
      rw [HT.out.e1, Nat.sub_self]
      simp [goB]
end Go.Fur
