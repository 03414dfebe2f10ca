/- Bytes are written behind all others: contract of (*Store).put. -/
import Derived.Test.YtmhejgelmmjihaaSto6
import Derived.Test.YtmhejgelmmjihaaSto2
import Derived.Test.YtmhejgelmmjihaaReg2
import Derived.IntWalk
import Derived.Deep.CutBlock
import Derived.Deep.DeepCutAuto
namespace Go.Fur
open Go Go.RowKit Go.Proofs
set_option linter.unusedVariables false
set_option linter.unusedSimpArgs false
/-- A store's state. -/
structure St where
  gen : Nat
  life : Nat
  tail : List Int
  at_ : Nat
  count : Nat
  safe : Nat
/-- What a block of a half holds. -/
def blkL (gen life : Nat) (u : List Int) : List Int := le4 gen ++ le4 life ++ (u.length : Int) :: u
def D.putB (d : D) (gen life i : Nat) (u : List Int) : D := (d.write (placeP d gen i) (blkL gen life u)).2
def putP (gen life : Nat) : Nat → D → List Int → Nat → D × List Int × Nat
  | 0, d, tail, i => (d, tail, i)
  | f + 1, d, tail, i =>
    if tail.length < 55 then (d.putB gen life i tail, tail, i)
    else if tail.length = 55 then (d.putB gen life i tail, [], i + 1)
    else putP gen life f (d.putB gen life i (tail.take 55)) (tail.drop 55) (i + 1)
/-- The store q on the disk p. -/
structure StoAt (w : World) (base p bb q : Nat) (lv tl : Value) (d : D) (s : St) : Prop where
  da : DiskAt w base p bb lv d
  yd : d.byt
  hq : Blk w q 67 (sto p s.gen s.life tl s.at_ s.count s.safe)
  ht : Own w base 5 1 tl s.tail.length (bv s.tail)
  yt : Byt s.tail
  bq : base ≤ q
  g32 : s.gen < 4294967296
  l32 : s.life < 4294967296
def stoX (p bb q : Nat) (lv tl : Value) (k : Nat) : Prop := k = q ∨ k ∈ p :: bb :: ob lv ∨ k ∈ ob tl
/-- What is turned lies in X, or is new. -/
def Stp (X : Nat → Prop) (w w' : World) : Prop := FrX (fun k => X k ∨ w.heap.size ≤ k) w w'
def putS (d : D) (s : St) (l : List Int) : D × St :=
  ((putP s.gen s.life ((s.tail ++ l).length / 55 + 1) d (s.tail ++ l) s.at_).1, ⟨s.gen, s.life, (putP s.gen s.life ((s.tail ++ l).length / 55 + 1) d (s.tail ++ l) s.at_).2.1, (putP s.gen s.life ((s.tail ++ l).length / 55 + 1) d (s.tail ++ l) s.at_).2.2, s.count, s.safe⟩)
def tlen (q : Nat) (w : World) : Nat := match w.cell? ⟨q, 3, none⟩ with
  | some (.slice _ n _) => n
  | _ => 0
/-- Between the rounds. -/
def PutR (w : World) (base p bb q : Nat) (X : Nat → Prop) (gen life : Nat) (count safe : Nat) (few : Nat) (r : D × List Int × Nat) (wr : World) : Prop :=
  ∃ f d tail i lv tl, StoAt wr base p bb q lv tl d ⟨gen, life, tail, i, count, safe⟩ ∧ tail.length < 55 * f + 55 ∧ r = putP gen life (f + 1) d tail i ∧ Stp X w wr ∧ (∀ k, stoX p bb q lv tl k → X k ∨ w.heap.size ≤ k) ∧ d.loose.length + f ≤ few ∧ i + f ≤ 65000
theorem le4_byt {gen life us : Nat} {tail : List Int} (hg : gen < 4294967296) (hl : life < 4294967296) (hu : us < 256) (ht : Byt tail) : Byt (blkL gen life (tail.take us)) := by
  have h4 : ∀ x : Nat, x < 4294967296 → Byt (le4 x) := fun x hx y hy => by
    simp only [le4, List.mem_cons, List.not_mem_nil, or_false] at hy
    omega
  unfold blkL
  refine ((h4 gen hg).append (h4 life hl)).append ?_
  intro x hx
  rcases List.mem_cons.1 hx with rfl | hx
  · have := List.length_take_le us tail
    omega
  · exact ht.take us x hx
theorem put_end {w wr w7 w21 w22 : World} {base p bb q : Nat} {X : Nat → Prop} {gen life : Nat} {tail : List Int} {i count safe us : Nat} {lvk lvx tlk v7 : Value} {dk : D} (hS : StoAt wr base p bb q lvk tlk dk ⟨gen, life, tail, i, count, safe⟩) (hst : Stp X w wr) (hX : ∀ k, stoX p bb q lvk tlk k → X k ∨ w.heap.size ≤ k)
    (hlow : ∀ (k : Nat) t cs, Blk wr k t cs → ∀ W', Fr (ob v7) w7 W' → Blk W' k t cs) (h21 : Fr (ob v7) w7 w21) (hD : DiskAt w22 base p bb lvx (dk.write (placeP dk gen i) (blkL gen life (tail.take us))).2) (F : Fr (p :: bb :: ob lvk) w21 w22) (K : ∀ k ∈ ob lvx, k ∈ ob lvk ∨ w21.heap.size ≤ k) (f : Fr [] wr w21) (hb : Byt (blkL gen life (tail.take us))) :
    ∃ lvx, StoAt w22 base p bb q lvx tlk (dk.putB gen life i (tail.take us)) ⟨gen, life, tail, i, count, safe⟩ ∧ Stp X w w22 ∧ ∀ k, stoX p bb q lvx tlk k → X k ∨ w.heap.size ≤ k := by
  have hsz : w.heap.size ≤ wr.heap.size := hst.size
  have hnew : ∀ k, k ∈ p :: bb :: ob lvk → X k ∨ w.heap.size ≤ k := fun k hk => hX k (.inr (.inl hk))
  have hap := hS.da.apart
  have hqn : q ∉ p :: bb :: ob lvk := fun hm => by
    simp only [List.mem_cons] at hm
    rcases hm with hm | hm | hm
    · exact hS.hq.ne hS.da.hp (by decide) hm
    · exact hS.hq.ne hS.da.hb (by decide) hm
    · obtain ⟨cur, hc⟩ := hS.da.hl.blkOf hm
      exact hS.hq.ne hc (by decide) rfl
  have htn : ∀ k ∈ ob tlk, k ∉ p :: bb :: ob lvk := fun k hk hm => by
    obtain ⟨cur, hc⟩ := hS.ht.blkOf hk
    simp only [List.mem_cons] at hm
    rcases hm with hm | hm | hm
    · exact hc.ne hS.da.hp (by decide) hm
    · exact hc.ne hS.da.hb (by decide) hm
    · obtain ⟨cur2, hc2⟩ := hS.da.hl.blkOf hm
      exact hc.ne hc2 (by decide) rfl
  refine ⟨lvx, ⟨hD, hS.yd.write hb, (hS.hq.fr f (by simp)).fr F hqn, (hS.ht.fr0 f).fr F htn, hS.yt, hS.bq, hS.g32, hS.l32⟩, (hst.trans (f.x (by simp))).trans (F.x (fun k hk => hnew k hk)), fun k hk => ?_⟩
  rcases hk with hk | hk | hk
  · exact hX k (.inl hk)
  · simp only [List.mem_cons] at hk
    rcases hk with hk | hk | hk
    · exact hnew k (by simp [hk])
    · exact hnew k (by simp [hk])
    · rcases K k hk with h1 | h1
      · exact hnew k (by simp [h1])
      · exact .inr (by have := f.size; omega)
  · exact hX k (.inr (.inr hk))
set_option maxRecDepth 100000 in
set_option maxHeartbeats 8000000 in
theorem putS_calls {w : World} {base p bb q : Nat} {lv tl : Value} {d : D} {s : St} (h : StoAt w base p bb q lv tl d s) (hbase : base ≤ w.heap.size) (a : Option Addr) (m c : Nat) (l : List Int) (hm : l.length = m) (hr : Rd w a (bv l)) (hl : Byt l)
    (ht : s.tail.length < 55) (hmx : m ≤ 1100000) (hi : s.at_ ≤ 40000) (hfew : d.loose.length + 20100 < 1000000000) :
    Calls Try.prog 32 #[.pointer (some ⟨q, 0, none⟩), .slice a m c] w fun e w' => (∃ v, e = .returned v) ∧ ∃ lv' tl', StoAt w' base p bb q lv' tl' (putS d s l).1 (putS d s l).2 ∧ Stp (stoX p bb q lv tl) w w' ∧ ∀ k, stoX p bb q lv' tl' k → stoX p bb q lv tl k ∨ w.heap.size ≤ k := by
  unfold putS
  obtain ⟨r, hr0⟩ : ∃ r, putP s.gen s.life ((s.tail ++ l).length / 55 + 1) d (s.tail ++ l) s.at_ = r := ⟨_, rfl⟩
  rw [hr0]
  have HR0 := Lib.hid hr0
  clear hr0
  obtain ⟨at0, kt, rfl, hkt1, hkt2, hkt3⟩ := h.ht.form
  have c0 : w.cell? ⟨q, 3, none⟩ = some (.slice at0 s.tail.length kt) := h.hq.cellAt rfl
  have HH := Lib.hid h
  have HR := Lib.hid hr
  have HL := Lib.hid hl
  have HM := Lib.hid hm
  clear h hr hl hkt2 hkt3 hm
  go_enter Try.func32, Try.ntmps32
  go_wp2_with (first
    | (refine wpList_appB rfl _ _ 24 24 rfl base 5 5 .u8 1 Try.underlying24 Try.underlying24 info_byte _ s.tail.length (bv s.tail) (by rfl) HH.out.ht a m _ (bv l) (by rfl) HR.out (by rw [bv_length]; exact HM.out) (bv_one _) (by simp only [maxLen]; omega) (by omega) hbase ?_; intro v4 w4 O4 F4 K4 _; obtain ⟨a4, k4, hv4, t1, t2, t3⟩ := O4.form; subst hv4; have HO4 := Lib.hid O4; have HF4 := Lib.hid F4; have HK4 := Lib.hid K4; have HQ4 := Lib.hid (HH.out.hq.fr F4 (fun hm => by obtain ⟨cur, hcur⟩ := HH.out.ht.blkOf hm; exact hcur.ne HH.out.hq (by decide) rfl)); clear O4 F4 K4 t1 t2 t3)
    | (refine wpList_store1 rfl 24 _ _ rfl q 3 (.slice a4 (s.tail.length + m) k4) (by rfl) (by rfl) rfl 67 _ HQ4.out (by simp [sto]) (by kernel_rfl) rfl ?_; intro w5 B5 F5 S5; have HB5 := Lib.hid (show Blk w5 q 67 (sto p s.gen s.life (.slice a4 (s.tail.length + m) k4) s.at_ s.count s.safe) from B5); have HF5 := Lib.hid F5; clear B5 F5 S5))
  have hml : (s.tail ++ l).length = s.tail.length + m := by rw [List.length_append, HM.out]
  obtain ⟨N, hN⟩ : ∃ N, (s.tail ++ l).length / 55 = N := ⟨_, rfl⟩
  have hq5 : Stp (stoX p bb q lv (.slice at0 s.tail.length kt)) w w5 := by
    refine ⟨q :: ob (.slice at0 s.tail.length kt), (HF4.out.mono (fun k hk _ => List.mem_cons_of_mem _ hk)).trans HF5.out (fun k hk _ => by rw [List.mem_singleton.1 hk]; exact List.mem_cons_self), fun k hk => ?_⟩
    rcases List.mem_cons.1 hk with rfl | hk
    · exact .inl (.inl rfl)
    · exact .inl (.inr (.inr hk))
  have hap := HH.out.da.apart
  have htp : ∀ k ∈ ob (.slice at0 s.tail.length kt), k ≠ p ∧ k ≠ bb ∧ k ∉ ob lv ∧ k ≠ q := fun k hk => by
    obtain ⟨cur, hcur⟩ := HH.out.ht.blkOf hk
    refine ⟨hcur.ne HH.out.da.hp (by decide), hcur.ne HH.out.da.hb (by decide), fun hm => ?_, hcur.ne HH.out.hq (by decide)⟩
    obtain ⟨cur2, hcur2⟩ := HH.out.da.hl.blkOf hm
    exact hcur.ne hcur2 (by decide) rfl
  have hqq : q ≠ p ∧ q ≠ bb ∧ q ∉ ob lv := ⟨HH.out.hq.ne HH.out.da.hp (by decide), HH.out.hq.ne HH.out.da.hb (by decide), fun hm => by
    obtain ⟨cur2, hcur2⟩ := HH.out.da.hl.blkOf hm
    exact HH.out.hq.ne hcur2 (by decide) rfl⟩
  have hD5 : DiskAt w5 base p bb lv d := (HH.out.da.fr HF4.out (fun hm => (htp p hm).1 rfl) (fun hm => (htp bb hm).2.1 rfl) (fun k hk hm => (htp k hm).2.2.1 hk)).fr HF5.out (fun hm => hqq.1 (List.mem_singleton.1 hm).symm) (fun hm => hqq.2.1 (List.mem_singleton.1 hm).symm) (fun k hk hm => hqq.2.2 (List.mem_singleton.1 hm ▸ hk))
  have hO5 : Own w5 base 5 1 (.slice a4 (s.tail.length + m) k4) (s.tail ++ l).length (bv (s.tail ++ l)) := by
    rw [hml, bv_append]
    exact HO4.out.fr HF5.out (fun k hk hm => by
      obtain ⟨cur, hcur⟩ := HO4.out.blkOf hk
      exact hcur.ne HQ4.out (by decide) (List.mem_singleton.1 hm))
  have R0 : PutR w base p bb q (stoX p bb q lv (.slice at0 s.tail.length kt)) s.gen s.life s.count s.safe (d.loose.length + 20100) r w5 := by
    refine ⟨N, d, s.tail ++ l, s.at_, lv, .slice a4 (s.tail.length + m) k4, ⟨hD5, HH.out.yd, HB5.out, hO5, HH.out.yt.append HL.out, HH.out.bq, HH.out.g32, HH.out.l32⟩, by omega, by rw [← HR0.out, hN], hq5, fun k hk => ?_, by omega, by omega⟩
    rcases hk with hk | hk | hk
    · exact .inl (.inl hk)
    · exact .inl (.inr (.inl hk))
    · rcases HK4.out with h4 | h4
      · rw [h4] at hk
        exact .inl (.inr (.inr hk))
      · rw [h4] at hk
        exact .inr (by rw [List.mem_singleton.1 hk]; exact Nat.le_refl _)
  have HRR := Lib.hid R0
  have hgl : s.gen < 4294967296 ∧ s.life < 4294967296 := ⟨HH.out.g32, HH.out.l32⟩
  have hbq := HH.out.bq
  clear HR0 R0 hO5 hD5 hq5 hap htp hqq hml hN HO4 HF4 HK4 HQ4 HB5 HF5 HR HL HM hmx ht hi c0 HH
  obtain ⟨X, hXe⟩ : ∃ X, stoX p bb q lv (.slice at0 s.tail.length kt) = X := ⟨_, rfl⟩
  rw [hXe] at HRR
  have HXE := Lib.hid hXe
  clear hXe
  obtain ⟨gen, life, tail0, at1, count, safe⟩ := s
  dsimp only at HRR hgl HXE ⊢
  generalize d.loose.length + 20100 = few at *
  simp only [Act.put]
  go_loopw [] (fun wr => PutR w base p bb q X gen life count safe few r wr) (fun wr => tlen q wr)
  case atStart => exact HRR.out
  case round =>
    obtain ⟨f, dk, tail, i, lvk, tlk, hS, hf, hr, hst, hX, hfw, hif⟩ := hrel
    obtain ⟨akt, kkt, rfl, hk1, hk2, hk3⟩ := hS.ht.form
    dsimp only at hk1 hk3 hS
    have c3 : wr.cell? ⟨q, 3, none⟩ = some (.slice akt tail.length kkt) := hS.hq.cellAt rfl
    have c1 : wr.cell? ⟨q, 1, none⟩ = some (.int .u32 gen) := hS.hq.cellAt rfl
    have hsz : base ≤ wr.heap.size := by
      obtain ⟨T, fT, _⟩ := hst
      have := fT.size
      omega
    have HS := Lib.hid hS
    have HRK := Lib.hid hr
    have HST := Lib.hid hst
    have HX := Lib.hid hX
    have HK3 := Lib.hid hk3
    have hkkm : kkt ≤ 9223372036854775807 := by unfold maxLen at hk2; exact hk2
    clear hS hr hst hX hk3 hk2 HRR
    go_upto_region 2 with fail
    obtain ⟨us, hus⟩ : ∃ us : Nat, (if 55 < (tail.length : Int) then (55 : Int) else (tail.length : Int)) = (us : Int) := by
      split
      · exact ⟨55, rfl⟩
      · exact ⟨_, rfl⟩
    rw [hus]
    have hu1 : us ≤ 55 := by split at hus <;> omega
    have hu2 : us ≤ tail.length := by split at hus <;> omega
    have hu3 : tail.length < 55 → us = tail.length := fun h => by rw [if_neg (by omega)] at hus; omega
    have hu4 : ¬ tail.length < 55 → us = 55 := fun h => by split at hus <;> omega
    have HU := Lib.hid (And.intro hu3 hu4)
    have hu5 : (us : Int) ≤ (kkt : Int) := by omega
    have hw8 : IntKind.u8.wrap (us : Int) = (us : Int) := IntWalk.u8_in _ ⟨by omega, by omega⟩
    clear hus hu3 hu4
    go_wp2_with fail
    refine (put4_calls (n := 0) (l := []) (Own.nil wr wr.heap.size 5 1) (by omega) (Nat.le_refl _) gen hgl.1).mono ?_
    rintro e w6 ⟨v6, rfl, O6, F6, K6⟩
    rw [Nat.zero_add, List.nil_append] at O6
    obtain ⟨a6, k6, rfl, _, _, _⟩ := O6.form
    have f6 : Fr [] wr w6 := F6
    have c2 : w6.cell? ⟨q, 2, none⟩ = some (.int .u32 life) := (HS.out.hq.fr f6 (by simp)).cellAt rfl
    have HO6 := Lib.hid O6
    have HF6 := Lib.hid f6
    clear O6 F6 K6 f6
    dsimp only
    go_wp2_with fail
    refine (put4_calls (n := 4) HO6.out (by omega) (by have := HF6.out.size; omega) life hgl.2).mono ?_
    rintro e w7 ⟨v7, rfl, O7, F7, K7⟩
    rw [show 4 + 4 = 8 from rfl] at O7
    obtain ⟨a7, k7, rfl, _, _, _⟩ := O7.form
    have hob6 : ∀ k ∈ ob (Value.slice a6 4 k6), wr.heap.size ≤ k := fun k hk => (HO6.out.lt hk).1
    have HO7 := Lib.hid O7
    have HF7 : Hid (Fr [] wr w7) := Lib.hid (HF6.out.trans F7 (fun k hk hlt => by have := hob6 k hk; omega))
    clear O7 F7 K7 c1 c2 hob6
    dsimp only
    go_upto_region 4 with fail
    have hob7 : ∀ k ∈ ob (Value.slice a7 8 k7), wr.heap.size ≤ k := fun k hk => (HO7.out.lt hk).1
    have hqw : q < wr.heap.size := HS.out.hq.lt
    have hlow : ∀ (k : Nat) t cs, Blk wr k t cs → ∀ W', Fr (ob (Value.slice a7 8 k7)) w7 W' → Blk W' k t cs := fun k t cs hb W' f => (hb.fr HF7.out (by simp)).fr f (fun hm => by have := hob7 k hm; have := hb.lt; omega)
    have d0 : ∀ W', Fr (ob (Value.slice a7 8 k7)) w7 W' → W'.cell? ⟨q, 0, none⟩ = some (.pointer (some ⟨p, 0, none⟩)) := fun W' f => (hlow _ _ _ HS.out.hq W' f).cellAt rfl
    have d3 : ∀ W', Fr (ob (Value.slice a7 8 k7)) w7 W' → W'.cell? ⟨q, 3, none⟩ = some (.slice akt tail.length kkt) := fun W' f => (hlow _ _ _ HS.out.hq W' f).cellAt rfl
    have d4 : ∀ W', Fr (ob (Value.slice a7 8 k7)) w7 W' → W'.cell? ⟨q, 4, none⟩ = some (.int .i64 i) := fun W' f => (hlow _ _ _ HS.out.hq W' f).cellAt rfl
    have hfr7 : ∀ W', Fr (ob (Value.slice a7 8 k7)) w7 W' → Fr [] wr W' := fun W' f => HF7.out.trans f (fun k hk hlt => by have := hob7 k hk; omega)
    have HLOW := Lib.hid hlow
    have HFR := Lib.hid hfr7
    have HOB7 := Lib.hid hob7
    clear hlow hfr7 hob7
    go_cut [] from 15 to 78 (fun wx => ∃ lvx, StoAt wx base p bb q lvx (.slice akt tail.length kkt) (dk.putB gen life i (tail.take us)) ⟨gen, life, tail, i, count, safe⟩ ∧ Stp X w wx ∧ ∀ k, stoX p bb q lvx (.slice akt tail.length kkt) k → X k ∨ w.heap.size ≤ k)
    case first =>
      refine wp_region_tree (Fr (ob (Value.slice a7 8 k7)) w7) (seqT [0,1,2,3,4,5,6,7,8,10,11,12,15,16,17,18,19,20] (.two 9 (seqT [13,14,21,22] .done) 13 (seqT [9,14,21,22] .done))) [22] [9,13,14,21,22] [3,8,18] mixed (by kernel_rfl) ?_
      have hS : Fr (ob (Value.slice a7 8 k7)) w7 w7.drew := (Fr.refl _ _).drew
      simp only [seqT, List.foldr]
      repeat (first | (refine wpT_free ?_ (by rfl) (by rfl) (fun w' => ?_) ?_; rotate_left; (simp only [pickN]; go_simp; rfl); simp only [pickN, Act.put, List.setIfInBounds_toArray, List.set_cons_zero, List.set_cons_succ]) | (refine wpT_take ?_ hS (by rfl) (by rfl) (fun w' hw' => ?_) ?_; rotate_left; (simp only [pickN]; go_simp; rfl); simp only [pickN, Act.put, List.setIfInBounds_toArray, List.set_cons_zero, List.set_cons_succ]))
      refine wpT_two ?_ ?_
      · refine wpList_callC rfl 40 #[.pointer (some ⟨q, 0, none⟩), .int .i64 i] (by simp only [pickN]; first | (go_simp; done) | (go_simp; rfl)) _ (place_calls (HS.out.da.fr0 (HFR.out _ hS)) (HS.out.hq.fr (HFR.out _ hS) (by simp)) i (by omega)) ?_
        rintro e w9 ⟨rfl, nk, rfl⟩
        have hS9 : Fr (ob (Value.slice a7 8 k7)) w7 (w7.drew.drewN nk) := hS.drewN nk
        have z9 : (w7.drew.drewN nk).heap.size = w7.heap.size := rfl
        refine ⟨_, rfl, effT_keep hS9 ?_⟩
        simp only [pickN, Act.put, List.setIfInBounds_toArray, List.set_cons_zero, List.set_cons_succ]
        refine wpT_eff (by rfl) ?_
        refine wpList_buildSlice1 rfl 24 5 _ rfl [.int .u8 0] 1 1 Try.underlying24 (by kernel_rfl) (by simp) (by omega) (by omega) _ [.int .u8 us] (by rfl) (by rfl) (by simp) ?_
        intro w13 B13 F13 S13
        have hS13 := hS9.trans0 F13
        have F713 : Fr [] w7 w13 := (((Fr.refl [] w7).drew).drewN nk).trans0 F13
        refine effT_keep hS13 ?_
        simp only [pickN, Act.put, List.setIfInBounds_toArray, List.set_cons_zero, List.set_cons_succ]
        refine wpT_eff (by rfl) ?_
        refine wpList_appB rfl _ _ 24 24 rfl wr.heap.size 5 5 .u8 1 Try.underlying24 Try.underlying24 info_byte _ 8 (bv (le4 gen ++ le4 life)) (by rfl) (HO7.out.fr0 (F713)) (some ⟨(w7.drew.drewN nk).heap.size, 0, none⟩) 1 1 (bv [(us : Int)]) (by rfl) ((B13).rd0 1) rfl (bv_one _) (by simp only [maxLen]; omega) (by omega) (by have := HF7.out.size; have := (F713).size; omega) ?_
        intro v14 w14 O14 F14 K14 _
        obtain ⟨a14, k14, hv14, _, _, _⟩ := O14.form
        subst hv14
        have hS14 : Fr (ob (Value.slice a7 8 k7)) w7 w14 := hS13.trans1 F14
        refine effT_keep hS14 ?_
        simp only [pickN, Act.put, List.setIfInBounds_toArray, List.set_cons_zero, List.set_cons_succ]
        refine wpT_eff (by rfl) ?_
        refine wpList_appB rfl _ _ 24 24 rfl wr.heap.size 5 5 .u8 1 Try.underlying24 Try.underlying24 info_byte _ (8 + 1) _ (by rfl) O14 akt us _ (bv (tail.take us)) (by rfl) (by rw [bv_take]; exact (HK3.out.fr0 (HFR.out _ hS14)).takeN us) (by rw [bv_length, List.length_take]; omega) (bv_one _) (by simp only [maxLen]; omega) (by omega) (by have := (HFR.out _ hS14).size; omega) ?_
        intro v21 w21 O21 F21 K21 _
        obtain ⟨a21, k21, hv21, _, _, hr21⟩ := O21.form
        subst hv21
        have hS21 : Fr (ob (Value.slice a7 8 k7)) w7 w21 := hS14.trans F21 (fun k hk hlt => by
          rcases K14 with h14 | h14
          · rwa [h14] at hk
          · rw [h14] at hk
            rw [List.mem_singleton.1 hk] at hlt
            have := F713.size
            omega)
        refine effT_keep hS21 ?_
        simp only [pickN, Act.put, List.setIfInBounds_toArray, List.set_cons_zero, List.set_cons_succ]
        refine wpT_eff (by rfl) ?_
        have hbe : bv (le4 gen ++ le4 life) ++ bv [(us : Int)] ++ bv (tail.take us) = bv (blkL gen life (tail.take us)) := by
          rw [← bv_append, ← bv_append]
          congr 1
          unfold blkL
          rw [List.length_take, Nat.min_eq_left (by omega)]
          simp
        rw [hbe] at hr21
        have hbl : (blkL gen life (tail.take us)).length = 8 + 1 + us := by
          unfold blkL
          simp only [List.length_append, List.length_cons, List.length_take, le4, List.length_nil]
          omega
        refine wpList_callC rfl 10 #[.pointer (some ⟨p, 0, none⟩), .int .i64 (placeP dk gen i), .slice a21 (8 + 1 + us) k21] (by simp only [pickN]; first | (go_simp; done) | (go_simp; rfl)) _ (write_all (HS.out.da.fr0 (HFR.out _ hS21)) (by have := (HFR.out _ hS21).size; omega) (placeP dk gen i) a21 (8 + 1 + us) k21 (blkL gen life (tail.take us)) hbl hr21 (by omega)) ?_
        rintro e w22 ⟨lvx, rfl, D22, F22, K22⟩
        refine ⟨_, rfl, effT_skip (by decide) (wpT_done ?_)⟩
        simp only [pickN, Act.put, List.setIfInBounds_toArray, List.set_cons_zero, List.set_cons_succ]
        have HE := Lib.hid (put_end HS.out HST.out HX.out HLOW.out hS21 D22 F22 K22 (HFR.out _ hS21) (le4_byt hgl.1 hgl.2 (by omega) HS.out.yt))
        clear D22 F22 K22 hr21 O21 O14 F21 F14 hS14 hS21 hbe
        go_wp2_with fail
        go_meet
        exact HE.out
      · refine wpList_buildSlice1 rfl 24 5 _ rfl [.int .u8 0] 1 1 Try.underlying24 (by kernel_rfl) (by simp) (by omega) (by omega) _ [.int .u8 us] (by rfl) (by rfl) (by simp) ?_
        intro w13 B13 F13 S13
        have hS13 := hS.trans0 F13
        refine effT_keep hS13 ?_
        simp only [pickN, Act.put, List.setIfInBounds_toArray, List.set_cons_zero, List.set_cons_succ]
        refine wpT_eff (by rfl) ?_
        refine wpList_callC rfl 40 #[.pointer (some ⟨q, 0, none⟩), .int .i64 i] (by simp only [pickN]; first | (go_simp; done) | (go_simp; rfl)) _ (place_calls (HS.out.da.fr0 (HFR.out _ hS13)) (HS.out.hq.fr (HFR.out _ hS13) (by simp)) i (by omega)) ?_
        rintro e w9 ⟨rfl, nk, rfl⟩
        have hS9 : Fr (ob (Value.slice a7 8 k7)) w7 (w13.drewN nk) := hS13.drewN nk
        have F713 : Fr [] w7 (w13.drewN nk) := (((Fr.refl [] w7).drew).trans0 F13).drewN nk
        refine ⟨_, rfl, effT_keep hS9 ?_⟩
        simp only [pickN, Act.put, List.setIfInBounds_toArray, List.set_cons_zero, List.set_cons_succ]
        refine wpT_eff (by rfl) ?_
        refine wpList_appB rfl _ _ 24 24 rfl wr.heap.size 5 5 .u8 1 Try.underlying24 Try.underlying24 info_byte _ 8 (bv (le4 gen ++ le4 life)) (by rfl) (HO7.out.fr0 (F713)) (some ⟨w7.drew.heap.size, 0, none⟩) 1 1 (bv [(us : Int)]) (by rfl) (((B13.drewN nk)).rd0 1) rfl (bv_one _) (by simp only [maxLen]; omega) (by omega) (by have := HF7.out.size; have := (F713).size; omega) ?_
        intro v14 w14 O14 F14 K14 _
        obtain ⟨a14, k14, hv14, _, _, _⟩ := O14.form
        subst hv14
        have hS14 : Fr (ob (Value.slice a7 8 k7)) w7 w14 := hS9.trans1 F14
        refine effT_keep hS14 ?_
        simp only [pickN, Act.put, List.setIfInBounds_toArray, List.set_cons_zero, List.set_cons_succ]
        refine wpT_eff (by rfl) ?_
        refine wpList_appB rfl _ _ 24 24 rfl wr.heap.size 5 5 .u8 1 Try.underlying24 Try.underlying24 info_byte _ (8 + 1) _ (by rfl) O14 akt us _ (bv (tail.take us)) (by rfl) (by rw [bv_take]; exact (HK3.out.fr0 (HFR.out _ hS14)).takeN us) (by rw [bv_length, List.length_take]; omega) (bv_one _) (by simp only [maxLen]; omega) (by omega) (by have := (HFR.out _ hS14).size; omega) ?_
        intro v21 w21 O21 F21 K21 _
        obtain ⟨a21, k21, hv21, _, _, hr21⟩ := O21.form
        subst hv21
        have hS21 : Fr (ob (Value.slice a7 8 k7)) w7 w21 := hS14.trans F21 (fun k hk hlt => by
          rcases K14 with h14 | h14
          · rwa [h14] at hk
          · rw [h14] at hk
            rw [List.mem_singleton.1 hk] at hlt
            have := F713.size
            omega)
        refine effT_keep hS21 ?_
        simp only [pickN, Act.put, List.setIfInBounds_toArray, List.set_cons_zero, List.set_cons_succ]
        refine wpT_eff (by rfl) ?_
        have hbe : bv (le4 gen ++ le4 life) ++ bv [(us : Int)] ++ bv (tail.take us) = bv (blkL gen life (tail.take us)) := by
          rw [← bv_append, ← bv_append]
          congr 1
          unfold blkL
          rw [List.length_take, Nat.min_eq_left (by omega)]
          simp
        rw [hbe] at hr21
        have hbl : (blkL gen life (tail.take us)).length = 8 + 1 + us := by
          unfold blkL
          simp only [List.length_append, List.length_cons, List.length_take, le4, List.length_nil]
          omega
        refine wpList_callC rfl 10 #[.pointer (some ⟨p, 0, none⟩), .int .i64 (placeP dk gen i), .slice a21 (8 + 1 + us) k21] (by simp only [pickN]; first | (go_simp; done) | (go_simp; rfl)) _ (write_all (HS.out.da.fr0 (HFR.out _ hS21)) (by have := (HFR.out _ hS21).size; omega) (placeP dk gen i) a21 (8 + 1 + us) k21 (blkL gen life (tail.take us)) hbl hr21 (by omega)) ?_
        rintro e w22 ⟨lvx, rfl, D22, F22, K22⟩
        refine ⟨_, rfl, effT_skip (by decide) (wpT_done ?_)⟩
        simp only [pickN, Act.put, List.setIfInBounds_toArray, List.set_cons_zero, List.set_cons_succ]
        have HE := Lib.hid (put_end HS.out HST.out HX.out HLOW.out hS21 D22 F22 K22 (HFR.out _ hS21) (le4_byt hgl.1 hgl.2 (by omega) HS.out.yt))
        clear D22 F22 K22 hr21 O21 O14 F21 F14 hS14 hS21 hbe
        go_wp2_with fail
        go_meet
        exact HE.out
    obtain ⟨lvx, hSx, hstx, hXx⟩ := hcut
    have hRK := HRK.out
    rw [putP] at hRK
    have HX2 := Lib.hid (And.intro hSx (And.intro hstx hXx))
    have cx3 : wc.cell? ⟨q, 3, none⟩ = some (.slice akt tail.length kkt) := hSx.hq.cellAt rfl
    clear hSx hstx hXx HS HST HX HRK HK3 HO6 HF6 HO7 HF7 HLOW HFR HOB7 d0 d3 d4 hw8
    by_cases h55 : tail.length < 55
    · have hu := HU.out.1 h55
      have hu' : (us : Int) < 55 := by omega
      have htk : tail.take us = tail := List.take_of_length_le (by omega)
      rw [htk] at HX2
      rw [if_pos h55] at hRK
      have HRK := Lib.hid hRK
      clear hRK hu htk
      go_wp2_with fail
      refine bodyPost_ret (results_none rfl _ _ _) rfl ?_
      rw [HXE.out]
      refine ⟨⟨_, rfl⟩, lvx, .slice akt tail.length kkt, ?_, HX2.out.2.1, HX2.out.2.2⟩
      rw [HRK.out]
      exact HX2.out.1
    · have hu := HU.out.2 h55
      subst hu
      rw [if_neg h55] at hRK
      have HRK := Lib.hid hRK
      clear hRK
      obtain ⟨aR, hRR, hsl⟩ := slice_l (P := Try.prog) Try.underlying24 (by kernel_rfl : (Try.prog.info? 5).map (·.size) = some 1) akt tail.length kkt 55 55 rfl (by omega) hk1
      have hrd : Rd wc aR (bv (tail.drop 55)) := by
        rw [bv_drop]
        exact hRR wc _ (HX2.out.1.ht.rdS (X := fun _ => False) (fun _ _ h => h)).1.rd (by simp)
      have HRD := Lib.hid hrd
      have hlx : (tail.drop 55).length = tail.length - 55 := List.length_drop
      have HLX := Lib.hid hlx
      have hszc : base ≤ wc.heap.size := by have := HX2.out.2.1.size; omega
      clear hRR hrd hlx
      go_wp2_with (first
        | (refine wpList_appB rfl _ _ 24 24 rfl wc.heap.size 5 5 .u8 1 Try.underlying24 Try.underlying24 info_byte _ 0 [] (by rfl) (Own.nil _ _ _ _) aR (tail.length - 55) _ (bv (tail.drop 55)) (by rfl) HRD.out (by rw [bv_length]; exact HLX.out) (bv_one _) (by simp only [maxLen]; omega) (by omega) (Nat.le_refl _) ?_; intro v8 w8 O8 F8 K8 N8; obtain ⟨a8, k8, hv8, _, _, _⟩ := O8.form; subst hv8; rw [List.nil_append, Nat.zero_add] at O8; have HO8 := Lib.hid O8; have HF8 := Lib.hid (show Fr [] wc w8 from F8); clear O8 F8 K8 N8)
        | (refine wpList_store1 rfl 24 _ _ rfl q 3 (.slice a8 (tail.length - 55) k8) (by rfl) (by rfl) rfl 67 _ (HX2.out.1.hq.fr HF8.out (by simp)) (by simp [sto]) (by kernel_rfl) rfl ?_; intro w9 B9 F9 S9; have HB9 := Lib.hid (show Blk w9 q 67 (sto p gen life (.slice a8 (tail.length - 55) k8) i count safe) from B9); have HF9 := Lib.hid F9; have c94 : w9.cell? ⟨q, 4, none⟩ = some (.int .i64 i) := HB9.out.cellAt rfl; clear B9 F9 S9)
        | (refine wpList_store1 rfl 3 _ _ rfl q 4 (.int .i64 ((i : Int) + 1)) (by rfl) (by rfl) rfl 67 _ HB9.out (by simp [sto]) (by kernel_rfl) rfl ?_; intro w10 B10 F10 S10; have HB10 := Lib.hid (show Blk w10 q 67 (sto p gen life (.slice a8 (tail.length - 55) k8) ((i : Int) + 1) count safe) from B10); have HF10 := Lib.hid F10; have c103 : w10.cell? ⟨q, 3, none⟩ = some (.slice a8 (tail.length - 55) k8) := HB10.out.cellAt rfl; clear B10 F10 S10))
      all_goals
        have hF10 : Fr [q] wc w10 := ((HF8.out.ext (S := [q])).trans1 HF9.out).trans1 HF10.out
        have hzq : stoX p bb q lvx (.slice akt tail.length kkt) q := .inl rfl
        have hS10 : StoAt w10 base p bb q lvx (.slice a8 (tail.length - 55) k8) (dk.putB gen life i (tail.take 55)) ⟨gen, life, tail.drop 55, i + 1, count, safe⟩ := by
          have hqd : ∀ k ∈ p :: bb :: ob lvx, k ∉ [q] := fun k hk hm => by
            have e := List.mem_singleton.1 hm
            subst e
            simp only [List.mem_cons] at hk
            rcases hk with hk | hk | hk
            · exact HX2.out.1.hq.ne HX2.out.1.da.hp (by decide) hk
            · exact HX2.out.1.hq.ne HX2.out.1.da.hb (by decide) hk
            · obtain ⟨cur, hc⟩ := HX2.out.1.da.hl.blkOf hk
              exact HX2.out.1.hq.ne hc (by decide) rfl
          refine ⟨HX2.out.1.da.fr hF10 (hqd p (by simp)) (hqd bb (by simp)) (fun k hk => hqd k (by simp [hk])), HX2.out.1.yd, by have := HB10.out; simpa [sto] using this, ?_, HX2.out.1.yt.drop 55, HX2.out.1.bq, hgl.1, hgl.2⟩
          have ho := (HO8.out.fr HF9.out (fun k hk hm => by have := (HO8.out.lt hk).1; have := HX2.out.1.hq.lt; have := List.mem_singleton.1 hm; omega)).fr HF10.out (fun k hk hm => by have := (HO8.out.lt hk).1; have := HX2.out.1.hq.lt; have := List.mem_singleton.1 hm; omega)
          have ho2 := ho.base hszc
          dsimp only
          rw [HLX.out]
          exact ho2
        have hst10 : Stp X w w10 := HX2.out.2.1.trans (hF10.x (fun k hk => by rw [List.mem_singleton.1 hk]; exact HX2.out.2.2 q hzq))
        have hX10 : ∀ k, stoX p bb q lvx (.slice a8 (tail.length - 55) k8) k → X k ∨ w.heap.size ≤ k := fun k hk => by
          rcases hk with hk | hk | hk
          · exact HX2.out.2.2 k (.inl hk)
          · exact HX2.out.2.2 k (.inr (.inl hk))
          · have h1 := (HO8.out.lt hk).1
            have h2 := HX2.out.2.1.size
            exact .inr (by omega)
      · have hz : ((tail.length - 55 : Nat) : Int) = 0 := by
          have := by assumption
          simpa using (‹(((tail.length - 55 : Nat) : Int) == 0) = true›)
        have h5 : tail.length = 55 := by omega
        refine bodyPost_ret (results_none rfl _ _ _) rfl ?_
        rw [HXE.out]
        refine ⟨⟨_, rfl⟩, lvx, _, ?_, hst10, hX10⟩
        rw [HRK.out, if_pos h5]
        have e1 : tail.drop 55 = [] := List.drop_eq_nil_of_le (by omega)
        have e2 : tail.take 55 = tail := List.take_of_length_le (by omega)
        rw [e1, e2] at hS10
        exact hS10
      · have hz : ¬ ((tail.length - 55 : Nat) : Int) = 0 := by
          simpa using (‹(((tail.length - 55 : Nat) : Int) == 0) = false›)
        have h5 : ¬ tail.length = 55 := by omega
        have hlo : (dk.putB gen life i (tail.take 55)).loose.length ≤ dk.loose.length + 1 := write_loose _ _ _
        obtain ⟨f', rfl⟩ : ∃ f', f = f' + 1 := ⟨f - 1, by omega⟩
        have hmeas : tlen q w10 < tlen q wr := by
          have e1 : tlen q w10 = tail.length - 55 := by unfold tlen; rw [HB10.out.cellAt rfl]
          have e2 : tlen q wr = tail.length := by unfold tlen; rw [c3]
          omega
        have hrel : PutR w base p bb q X gen life count safe few r w10 := ⟨f', _, tail.drop 55, i + 1, lvx, _, hS10, by rw [HLX.out]; omega, by rw [HRK.out, if_neg h5], hst10, hX10, by omega, by omega⟩
        go_roundw
        case rel => exact hrel
        case measure => exact hmeas
end Go.Fur
