/- Four bytes behind others: contract. -/
import Derived.Test.YtclnikmnfnedkaaCDiskAll
import Derived.Test.YtclnikmnfnedkaaCStrip1
import Derived.Test.YtclnikmnfnedkaaCSto6
import Derived.IntWalk
import Derived.Deep.CutBlock
import Derived.Deep.DeepCutAuto
namespace Go.Fur
open Go Go.RowKit Go.Proofs
set_option linter.unusedVariables false
set_option linter.unusedSimpArgs false
section
variable {P : Program}
/-- A slice literal of n elements, its run told ahead. -/
theorem wpList_buildN {w : World} {ops : Array Oper} {rest : List Oper} {o : Oper} {a : Act} {Q : Exit → Act → World → Prop} (hgd : o.guard = none) (t e : TypeId) (n : Nat) (ps : List (Nat × Operand)) (ho : o.op = .buildSlice t n ps.toArray)
    (parts : List (Nat × Value)) (hp : (ps.map fun p => (p.1, a.eval p.2)) = parts) (cs : List Value)
    (hr : ∀ W : World, (Instr.buildSlice t n parts.toArray).run P W = .ok (.slice (some ⟨W.heap.size, 0, none⟩) n n) (W.alloc (.cells cs.toArray e)))
    (h : ∀ w1 : World, Blk w1 w.heap.size e cs → Fr [] w w1 → w1.heap.size = w.heap.size + 1 → wpList P ops Q rest (a.put o.dst (.slice (some ⟨w.heap.size, 0, none⟩) n n)) w1) : wpList P ops Q (o :: rest) a w :=
  wpList_plain hgd fun K hK => by
    unfold Oper.wp execOp
    simp only [ho, List.map_toArray, hp, Sem.run_bind, hr, Result.andThen_ok, Sem.run_pure]
    exact hK _ _ (h _ (Blk.new w e cs) ((Fr.refl [] w).alloc _) (by simp))
end
/-- A number's four bytes, the lowest first. -/
def le4 (x : Nat) : List Int := [(x : Int) % 256, (x : Int) / 256 % 256, (x : Int) / 65536 % 256, (x : Int) / 16777216]
theorem bytes_build4 (a b c d : Int) : ∀ W : World, (Instr.buildSlice 33 4 [(0, .int .u8 a), (1, .int .u8 b), (2, .int .u8 c), (3, .int .u8 d)].toArray).run Try.prog W = .ok (.slice (some ⟨W.heap.size, 0, none⟩) 4 4) (W.alloc (.cells [Value.int .u8 a, Value.int .u8 b, Value.int .u8 c, Value.int .u8 d].toArray 5)) := fun W => by kernel_rfl
set_option maxRecDepth 100000 in
set_option maxHeartbeats 1000000 in
theorem put4_calls {w : World} {base n : Nat} {v : Value} {l : List Int} (ho : Own w base 5 1 v n (bv l)) (hn : n ≤ 1000000000) (hbase : base ≤ w.heap.size) (x : Nat) (hx : x < 4294967296) :
    Calls Try.prog 56 #[v, .int .u32 x] w fun e w' => ∃ v', e = .returned v' ∧ Own w' base 5 1 v' (n + 4) (bv (l ++ le4 x)) ∧ Fr (ob v) w w' ∧ (∀ k ∈ ob v', k ∈ ob v ∨ w.heap.size ≤ k) := by
  have HO := Lib.hid ho
  clear ho
  go_enter Try.func56, Try.ntmps56
  go_wp2_with (first
    | (have z := HB1.out; clear z; refine wpList_appB rfl _ _ 33 33 rfl base 5 5 .u8 1 Try.underlying33 Try.underlying33 info_byte v n (bv l) (by rfl) (HO.out.fr0 HF1.out) _ 4 4 (bv (le4 x)) (by rfl) (HB1.out.rd0 4) (by simp [bv, le4]) (by simp [bv, le4, Value.oneCell']) (by simp only [maxLen]; omega) (by omega) (by have := HF1.out.size; omega) ?_; intro v2 w2 O2 F2 K2 _; have HO2 := Lib.hid O2; have HF2 := Lib.hid (HF1.out.ext (S := ob v) |>.trans1 F2); have HK2 := Lib.hid K2; clear O2 F2 K2)
    | (refine wpList_buildN rfl 33 5 4 [(0, .tmp 7), (1, .tmp 10), (2, .tmp 13), (3, .tmp 16)] rfl [(0, .int .u8 ((x : Int) % 256)), (1, .int .u8 ((x : Int) / 256 % 256)), (2, .int .u8 ((x : Int) / 65536 % 256)), (3, .int .u8 ((x : Int) / 16777216))] (by rfl) (bv (le4 x)) (bytes_build4 _ _ _ _) ?_; intro w1 B1 F1 S1; have HB1 := Lib.hid B1; have HF1 := Lib.hid F1; have HS1 := Lib.hid S1; clear B1 F1 S1))
  go_ret
  refine ⟨v2, rfl, ?_, HF2.out, fun k hk => ?_⟩
  · have h := HO2.out
    rwa [← bv_append] at h
  · rcases HK2.out with h | h
    · exact .inl (h ▸ hk)
    · rw [h] at hk
      have := List.mem_singleton.1 hk
      exact .inr (by have := HF1.out.size; omega)
end Go.Fur
namespace Go.Fur
open Go Go.RowKit Go.Proofs
set_option linter.unusedVariables false
set_option linter.unusedSimpArgs false
/-- A store's state. -/
structure St where
  gen : Nat
  life : Nat
  tail : List Int
  at_ : Nat
  count : Nat
  safe : Nat
/-- What a block of a half holds. -/
def blkL (gen life : Nat) (u : List Int) : List Int := le4 gen ++ le4 life ++ (u.length : Int) :: u
def D.putB (d : D) (gen life i : Nat) (u : List Int) : D := (d.write (placeP d gen i) (blkL gen life u)).2
def putP (gen life : Nat) : Nat → D → List Int → Nat → D × List Int × Nat
  | 0, d, tail, i => (d, tail, i)
  | f + 1, d, tail, i =>
    if tail.length < 55 then (d.putB gen life i tail, tail, i)
    else if tail.length = 55 then (d.putB gen life i tail, [], i + 1)
    else putP gen life f (d.putB gen life i (tail.take 55)) (tail.drop 55) (i + 1)
/-- The store q on the disk p. -/
structure StoAt (w : World) (base p bb q : Nat) (lv tl : Value) (d : D) (s : St) : Prop where
  da : DiskAt w base p bb lv d
  yd : d.byt
  hq : Blk w q 103 (sto p s.gen s.life tl s.at_ s.count s.safe)
  ht : Own w base 5 1 tl s.tail.length (bv s.tail)
  yt : Byt s.tail
  bq : base ≤ q
  g32 : s.gen < 4294967296
  l32 : s.life < 4294967296
def stoX (p bb q : Nat) (lv tl : Value) (k : Nat) : Prop := k = q ∨ k ∈ p :: bb :: ob lv ∨ k ∈ ob tl
/-- What is turned lies in X, or is new. -/
def Stp (X : Nat → Prop) (w w' : World) : Prop := FrX (fun k => X k ∨ w.heap.size ≤ k) w w'
def putS (d : D) (s : St) (l : List Int) : D × St :=
  ((putP s.gen s.life ((s.tail ++ l).length / 55 + 1) d (s.tail ++ l) s.at_).1, ⟨s.gen, s.life, (putP s.gen s.life ((s.tail ++ l).length / 55 + 1) d (s.tail ++ l) s.at_).2.1, (putP s.gen s.life ((s.tail ++ l).length / 55 + 1) d (s.tail ++ l) s.at_).2.2, s.count, s.safe⟩)
def tlen (q : Nat) (w : World) : Nat := match w.cell? ⟨q, 3, none⟩ with
  | some (.slice _ n _) => n
  | _ => 0
/-- Between the rounds. -/
def PutR (w : World) (base p bb q : Nat) (X : Nat → Prop) (gen life : Nat) (count safe : Nat) (few : Nat) (r : D × List Int × Nat) (wr : World) : Prop :=
  ∃ f d tail i lv tl, StoAt wr base p bb q lv tl d ⟨gen, life, tail, i, count, safe⟩ ∧ tail.length < 55 * f + 55 ∧ r = putP gen life (f + 1) d tail i ∧ Stp X w wr ∧ (∀ k, stoX p bb q lv tl k → X k ∨ w.heap.size ≤ k) ∧ d.loose.length + f ≤ few ∧ i + f ≤ 65000
theorem le4_byt {gen life us : Nat} {tail : List Int} (hg : gen < 4294967296) (hl : life < 4294967296) (hu : us < 256) (ht : Byt tail) : Byt (blkL gen life (tail.take us)) := by
  have h4 : ∀ x : Nat, x < 4294967296 → Byt (le4 x) := fun x hx y hy => by
    simp only [le4, List.mem_cons, List.not_mem_nil, or_false] at hy
    omega
  unfold blkL
  refine ((h4 gen hg).append (h4 life hl)).append ?_
  intro x hx
  rcases List.mem_cons.1 hx with rfl | hx
  · have := List.length_take_le us tail
    omega
  · exact ht.take us x hx
theorem put_end {w wr w7 w21 w22 : World} {base p bb q : Nat} {X : Nat → Prop} {gen life : Nat} {tail : List Int} {i count safe us : Nat} {lvk lvx tlk v7 : Value} {dk : D} (hS : StoAt wr base p bb q lvk tlk dk ⟨gen, life, tail, i, count, safe⟩) (hst : Stp X w wr) (hX : ∀ k, stoX p bb q lvk tlk k → X k ∨ w.heap.size ≤ k)
    (hlow : ∀ (k : Nat) t cs, Blk wr k t cs → ∀ W', Fr (ob v7) w7 W' → Blk W' k t cs) (h21 : Fr (ob v7) w7 w21) (hD : DiskAt w22 base p bb lvx (dk.write (placeP dk gen i) (blkL gen life (tail.take us))).2) (F : Fr (p :: bb :: ob lvk) w21 w22) (K : ∀ k ∈ ob lvx, k ∈ ob lvk ∨ w21.heap.size ≤ k) (f : Fr [] wr w21) (hb : Byt (blkL gen life (tail.take us))) :
    ∃ lvx, StoAt w22 base p bb q lvx tlk (dk.putB gen life i (tail.take us)) ⟨gen, life, tail, i, count, safe⟩ ∧ Stp X w w22 ∧ ∀ k, stoX p bb q lvx tlk k → X k ∨ w.heap.size ≤ k := by
  have hsz : w.heap.size ≤ wr.heap.size := hst.size
  have hnew : ∀ k, k ∈ p :: bb :: ob lvk → X k ∨ w.heap.size ≤ k := fun k hk => hX k (.inr (.inl hk))
  have hap := hS.da.apart
  have hqn : q ∉ p :: bb :: ob lvk := fun hm => by
    simp only [List.mem_cons] at hm
    rcases hm with hm | hm | hm
    · exact hS.hq.ne hS.da.hp (by decide) hm
    · exact hS.hq.ne hS.da.hb (by decide) hm
    · obtain ⟨cur, hc⟩ := hS.da.hl.blkOf hm
      exact hS.hq.ne hc (by decide) rfl
  have htn : ∀ k ∈ ob tlk, k ∉ p :: bb :: ob lvk := fun k hk hm => by
    obtain ⟨cur, hc⟩ := hS.ht.blkOf hk
    simp only [List.mem_cons] at hm
    rcases hm with hm | hm | hm
    · exact hc.ne hS.da.hp (by decide) hm
    · exact hc.ne hS.da.hb (by decide) hm
    · obtain ⟨cur2, hc2⟩ := hS.da.hl.blkOf hm
      exact hc.ne hc2 (by decide) rfl
  refine ⟨lvx, ⟨hD, hS.yd.write hb, (hS.hq.fr f (by simp)).fr F hqn, (hS.ht.fr0 f).fr F htn, hS.yt, hS.bq, hS.g32, hS.l32⟩, (hst.trans (f.x (by simp))).trans (F.x (fun k hk => hnew k hk)), fun k hk => ?_⟩
  rcases hk with hk | hk | hk
  · exact hX k (.inl hk)
  · simp only [List.mem_cons] at hk
    rcases hk with hk | hk | hk
    · exact hnew k (by simp [hk])
    · exact hnew k (by simp [hk])
    · rcases K k hk with h1 | h1
      · exact hnew k (by simp [h1])
      · exact .inr (by have := f.size; omega)
  · exact hX k (.inr (.inr hk))
set_option maxRecDepth 100000 in
set_option maxHeartbeats 8000000 in
theorem putS_calls {w : World} {base p bb q : Nat} {lv tl : Value} {d : D} {s : St} (h : StoAt w base p bb q lv tl d s) (hbase : base ≤ w.heap.size) (a : Option Addr) (m c : Nat) (l : List Int) (hm : l.length = m) (hr : Rd w a (bv l)) (hl : Byt l)
    (ht : s.tail.length < 55) (hmx : m ≤ 1100000) (hi : s.at_ ≤ 40000) (hfew : d.loose.length + 20100 < 1000000000) :
    Calls Try.prog 55 #[.pointer (some ⟨q, 0, none⟩), .slice a m c] w fun e w' => (∃ v, e = .returned v) ∧ ∃ lv' tl', StoAt w' base p bb q lv' tl' (putS d s l).1 (putS d s l).2 ∧ Stp (stoX p bb q lv tl) w w' ∧ ∀ k, stoX p bb q lv' tl' k → stoX p bb q lv tl k ∨ w.heap.size ≤ k := by
  unfold putS
  obtain ⟨r, hr0⟩ : ∃ r, putP s.gen s.life ((s.tail ++ l).length / 55 + 1) d (s.tail ++ l) s.at_ = r := ⟨_, rfl⟩
  rw [hr0]
  have HR0 := Lib.hid hr0
  clear hr0
  obtain ⟨at0, kt, rfl, hkt1, hkt2, hkt3⟩ := h.ht.form
  have c0 : w.cell? ⟨q, 3, none⟩ = some (.slice at0 s.tail.length kt) := h.hq.cellAt rfl
  have HH := Lib.hid h
  have HR := Lib.hid hr
  have HL := Lib.hid hl
  have HM := Lib.hid hm
  clear h hr hl hkt2 hkt3 hm
  go_enter Try.func55, Try.ntmps55
  go_wp2_with (first
    | (refine wpList_appB rfl _ _ 33 33 rfl base 5 5 .u8 1 Try.underlying33 Try.underlying33 info_byte _ s.tail.length (bv s.tail) (by rfl) HH.out.ht a m _ (bv l) (by rfl) HR.out (by rw [bv_length]; exact HM.out) (bv_one _) (by simp only [maxLen]; omega) (by omega) hbase ?_; intro v4 w4 O4 F4 K4 _; obtain ⟨a4, k4, hv4, t1, t2, t3⟩ := O4.form; subst hv4; have HO4 := Lib.hid O4; have HF4 := Lib.hid F4; have HK4 := Lib.hid K4; have HQ4 := Lib.hid (HH.out.hq.fr F4 (fun hm => by obtain ⟨cur, hcur⟩ := HH.out.ht.blkOf hm; exact hcur.ne HH.out.hq (by decide) rfl)); clear O4 F4 K4 t1 t2 t3)
    | (refine wpList_store1 rfl 33 _ _ rfl q 3 (.slice a4 (s.tail.length + m) k4) (by rfl) (by rfl) rfl 103 _ HQ4.out (by simp [sto]) (by kernel_rfl) rfl ?_; intro w5 B5 F5 S5; have HB5 := Lib.hid (show Blk w5 q 103 (sto p s.gen s.life (.slice a4 (s.tail.length + m) k4) s.at_ s.count s.safe) from B5); have HF5 := Lib.hid F5; clear B5 F5 S5))
  have hml : (s.tail ++ l).length = s.tail.length + m := by rw [List.length_append, HM.out]
  obtain ⟨N, hN⟩ : ∃ N, (s.tail ++ l).length / 55 = N := ⟨_, rfl⟩
  have hq5 : Stp (stoX p bb q lv (.slice at0 s.tail.length kt)) w w5 := by
    refine ⟨q :: ob (.slice at0 s.tail.length kt), (HF4.out.mono (fun k hk _ => List.mem_cons_of_mem _ hk)).trans HF5.out (fun k hk _ => by rw [List.mem_singleton.1 hk]; exact List.mem_cons_self), fun k hk => ?_⟩
    rcases List.mem_cons.1 hk with rfl | hk
    · exact .inl (.inl rfl)
    · exact .inl (.inr (.inr hk))
  have hap := HH.out.da.apart
  have htp : ∀ k ∈ ob (.slice at0 s.tail.length kt), k ≠ p ∧ k ≠ bb ∧ k ∉ ob lv ∧ k ≠ q := fun k hk => by
    obtain ⟨cur, hcur⟩ := HH.out.ht.blkOf hk
    refine ⟨hcur.ne HH.out.da.hp (by decide), hcur.ne HH.out.da.hb (by decide), fun hm => ?_, hcur.ne HH.out.hq (by decide)⟩
    obtain ⟨cur2, hcur2⟩ := HH.out.da.hl.blkOf hm
    exact hcur.ne hcur2 (by decide) rfl
  have hqq : q ≠ p ∧ q ≠ bb ∧ q ∉ ob lv := ⟨HH.out.hq.ne HH.out.da.hp (by decide), HH.out.hq.ne HH.out.da.hb (by decide), fun hm => by
    obtain ⟨cur2, hcur2⟩ := HH.out.da.hl.blkOf hm
    exact HH.out.hq.ne hcur2 (by decide) rfl⟩
  have hD5 : DiskAt w5 base p bb lv d := (HH.out.da.fr HF4.out (fun hm => (htp p hm).1 rfl) (fun hm => (htp bb hm).2.1 rfl) (fun k hk hm => (htp k hm).2.2.1 hk)).fr HF5.out (fun hm => hqq.1 (List.mem_singleton.1 hm).symm) (fun hm => hqq.2.1 (List.mem_singleton.1 hm).symm) (fun k hk hm => hqq.2.2 (List.mem_singleton.1 hm ▸ hk))
  have hO5 : Own w5 base 5 1 (.slice a4 (s.tail.length + m) k4) (s.tail ++ l).length (bv (s.tail ++ l)) := by
    rw [hml, bv_append]
    exact HO4.out.fr HF5.out (fun k hk hm => by
      obtain ⟨cur, hcur⟩ := HO4.out.blkOf hk
      exact hcur.ne HQ4.out (by decide) (List.mem_singleton.1 hm))
  have R0 : PutR w base p bb q (stoX p bb q lv (.slice at0 s.tail.length kt)) s.gen s.life s.count s.safe (d.loose.length + 20100) r w5 := by
    refine ⟨N, d, s.tail ++ l, s.at_, lv, .slice a4 (s.tail.length + m) k4, ⟨hD5, HH.out.yd, HB5.out, hO5, HH.out.yt.append HL.out, HH.out.bq, HH.out.g32, HH.out.l32⟩, by omega, by rw [← HR0.out, hN], hq5, fun k hk => ?_, by omega, by omega⟩
    rcases hk with hk | hk | hk
    · exact .inl (.inl hk)
    · exact .inl (.inr (.inl hk))
    · rcases HK4.out with h4 | h4
      · rw [h4] at hk
        exact .inl (.inr (.inr hk))
      · rw [h4] at hk
        exact .inr (by rw [List.mem_singleton.1 hk]; exact Nat.le_refl _)
  have HRR := Lib.hid R0
  have hgl : s.gen < 4294967296 ∧ s.life < 4294967296 := ⟨HH.out.g32, HH.out.l32⟩
  have hbq := HH.out.bq
  clear HR0 R0 hO5 hD5 hq5 hap htp hqq hml hN HO4 HF4 HK4 HQ4 HB5 HF5 HR HL HM hmx ht hi c0 HH
  obtain ⟨X, hXe⟩ : ∃ X, stoX p bb q lv (.slice at0 s.tail.length kt) = X := ⟨_, rfl⟩
  rw [hXe] at HRR
  have HXE := Lib.hid hXe
  clear hXe
  obtain ⟨gen, life, tail0, at1, count, safe⟩ := s
  dsimp only at HRR hgl HXE ⊢
  generalize d.loose.length + 20100 = few at *
  simp only [Act.put]
  go_loopw [] (fun wr => PutR w base p bb q X gen life count safe few r wr) (fun wr => tlen q wr)
  case atStart => exact HRR.out
  case round =>
    obtain ⟨f, dk, tail, i, lvk, tlk, hS, hf, hr, hst, hX, hfw, hif⟩ := hrel
    obtain ⟨akt, kkt, rfl, hk1, hk2, hk3⟩ := hS.ht.form
    dsimp only at hk1 hk3 hS
    have c3 : wr.cell? ⟨q, 3, none⟩ = some (.slice akt tail.length kkt) := hS.hq.cellAt rfl
    have c1 : wr.cell? ⟨q, 1, none⟩ = some (.int .u32 gen) := hS.hq.cellAt rfl
    have hsz : base ≤ wr.heap.size := by
      obtain ⟨T, fT, _⟩ := hst
      have := fT.size
      omega
    have HS := Lib.hid hS
    have HRK := Lib.hid hr
    have HST := Lib.hid hst
    have HX := Lib.hid hX
    have HK3 := Lib.hid hk3
    have hkkm : kkt ≤ 9223372036854775807 := by unfold maxLen at hk2; exact hk2
    clear hS hr hst hX hk3 hk2 HRR
    go_upto_region 2 with fail
    obtain ⟨us, hus⟩ : ∃ us : Nat, (if 55 < (tail.length : Int) then (55 : Int) else (tail.length : Int)) = (us : Int) := by
      split
      · exact ⟨55, rfl⟩
      · exact ⟨_, rfl⟩
    rw [hus]
    have hu1 : us ≤ 55 := by split at hus <;> omega
    have hu2 : us ≤ tail.length := by split at hus <;> omega
    have hu3 : tail.length < 55 → us = tail.length := fun h => by rw [if_neg (by omega)] at hus; omega
    have hu4 : ¬ tail.length < 55 → us = 55 := fun h => by split at hus <;> omega
    have HU := Lib.hid (And.intro hu3 hu4)
    have hu5 : (us : Int) ≤ (kkt : Int) := by omega
    have hw8 : IntKind.u8.wrap (us : Int) = (us : Int) := IntWalk.u8_in _ ⟨by omega, by omega⟩
    clear hus hu3 hu4
    go_wp2_with fail
    refine (put4_calls (n := 0) (l := []) (Own.nil wr wr.heap.size 5 1) (by omega) (Nat.le_refl _) gen hgl.1).mono ?_
    rintro e w6 ⟨v6, rfl, O6, F6, K6⟩
    rw [Nat.zero_add, List.nil_append] at O6
    obtain ⟨a6, k6, rfl, _, _, _⟩ := O6.form
    have f6 : Fr [] wr w6 := F6
    have c2 : w6.cell? ⟨q, 2, none⟩ = some (.int .u32 life) := (HS.out.hq.fr f6 (by simp)).cellAt rfl
    have HO6 := Lib.hid O6
    have HF6 := Lib.hid f6
    clear O6 F6 K6 f6
    dsimp only
    go_wp2_with fail
    refine (put4_calls (n := 4) HO6.out (by omega) (by have := HF6.out.size; omega) life hgl.2).mono ?_
    rintro e w7 ⟨v7, rfl, O7, F7, K7⟩
    rw [show 4 + 4 = 8 from rfl] at O7
    obtain ⟨a7, k7, rfl, _, _, _⟩ := O7.form
    have hob6 : ∀ k ∈ ob (Value.slice a6 4 k6), wr.heap.size ≤ k := fun k hk => (HO6.out.lt hk).1
    have HO7 := Lib.hid O7
    have HF7 : Hid (Fr [] wr w7) := Lib.hid (HF6.out.trans F7 (fun k hk hlt => by have := hob6 k hk; omega))
    clear O7 F7 K7 c1 c2 hob6
    dsimp only
    go_upto_region 4 with fail
    have hob7 : ∀ k ∈ ob (Value.slice a7 8 k7), wr.heap.size ≤ k := fun k hk => (HO7.out.lt hk).1
    have hqw : q < wr.heap.size := HS.out.hq.lt
    have hlow : ∀ (k : Nat) t cs, Blk wr k t cs → ∀ W', Fr (ob (Value.slice a7 8 k7)) w7 W' → Blk W' k t cs := fun k t cs hb W' f => (hb.fr HF7.out (by simp)).fr f (fun hm => by have := hob7 k hm; have := hb.lt; omega)
    have d0 : ∀ W', Fr (ob (Value.slice a7 8 k7)) w7 W' → W'.cell? ⟨q, 0, none⟩ = some (.pointer (some ⟨p, 0, none⟩)) := fun W' f => (hlow _ _ _ HS.out.hq W' f).cellAt rfl
    have d3 : ∀ W', Fr (ob (Value.slice a7 8 k7)) w7 W' → W'.cell? ⟨q, 3, none⟩ = some (.slice akt tail.length kkt) := fun W' f => (hlow _ _ _ HS.out.hq W' f).cellAt rfl
    have d4 : ∀ W', Fr (ob (Value.slice a7 8 k7)) w7 W' → W'.cell? ⟨q, 4, none⟩ = some (.int .i64 i) := fun W' f => (hlow _ _ _ HS.out.hq W' f).cellAt rfl
    have hfr7 : ∀ W', Fr (ob (Value.slice a7 8 k7)) w7 W' → Fr [] wr W' := fun W' f => HF7.out.trans f (fun k hk hlt => by have := hob7 k hk; omega)
    have HLOW := Lib.hid hlow
    have HFR := Lib.hid hfr7
    have HOB7 := Lib.hid hob7
    clear hlow hfr7 hob7
    go_cut [] from 15 to 78 (fun wx => ∃ lvx, StoAt wx base p bb q lvx (.slice akt tail.length kkt) (dk.putB gen life i (tail.take us)) ⟨gen, life, tail, i, count, safe⟩ ∧ Stp X w wx ∧ ∀ k, stoX p bb q lvx (.slice akt tail.length kkt) k → X k ∨ w.heap.size ≤ k)
    case first =>
      refine wp_region_tree (Fr (ob (Value.slice a7 8 k7)) w7) (seqT [0,1,2,3,4,5,6,7,8,10,11,12,15,16,17,18,19,20] (.two 9 (seqT [13,14,21,22] .done) 13 (seqT [9,14,21,22] .done))) [22] [9,13,14,21,22] [3,8,18] mixed (by kernel_rfl) ?_
      have hS : Fr (ob (Value.slice a7 8 k7)) w7 w7.drew := (Fr.refl _ _).drew
      simp only [seqT, List.foldr]
      repeat (first | (refine wpT_free ?_ (by rfl) (by rfl) (fun w' => ?_) ?_; rotate_left; (simp only [pickN]; go_simp; rfl); simp only [pickN, Act.put, List.setIfInBounds_toArray, List.set_cons_zero, List.set_cons_succ]) | (refine wpT_take ?_ hS (by rfl) (by rfl) (fun w' hw' => ?_) ?_; rotate_left; (simp only [pickN]; go_simp; rfl); simp only [pickN, Act.put, List.setIfInBounds_toArray, List.set_cons_zero, List.set_cons_succ]))
      refine wpT_two ?_ ?_
      · refine wpList_callC rfl 64 #[.pointer (some ⟨q, 0, none⟩), .int .i64 i] (by simp only [pickN]; first | (go_simp; done) | (go_simp; rfl)) _ (place_calls (HS.out.da.fr0 (HFR.out _ hS)) (HS.out.hq.fr (HFR.out _ hS) (by simp)) i (by omega)) ?_
        rintro e w9 ⟨rfl, nk, rfl⟩
        have hS9 : Fr (ob (Value.slice a7 8 k7)) w7 (w7.drew.drewN nk) := hS.drewN nk
        have z9 : (w7.drew.drewN nk).heap.size = w7.heap.size := rfl
        refine ⟨_, rfl, effT_keep hS9 ?_⟩
        simp only [pickN, Act.put, List.setIfInBounds_toArray, List.set_cons_zero, List.set_cons_succ]
        refine wpT_eff (by rfl) ?_
        refine wpList_buildSlice1 rfl 33 5 _ rfl [.int .u8 0] 1 1 Try.underlying33 (by kernel_rfl) (by simp) (by omega) (by omega) _ [.int .u8 us] (by rfl) (by rfl) (by simp) ?_
        intro w13 B13 F13 S13
        have hS13 := hS9.trans0 F13
        have F713 : Fr [] w7 w13 := (((Fr.refl [] w7).drew).drewN nk).trans0 F13
        refine effT_keep hS13 ?_
        simp only [pickN, Act.put, List.setIfInBounds_toArray, List.set_cons_zero, List.set_cons_succ]
        refine wpT_eff (by rfl) ?_
        refine wpList_appB rfl _ _ 33 33 rfl wr.heap.size 5 5 .u8 1 Try.underlying33 Try.underlying33 info_byte _ 8 (bv (le4 gen ++ le4 life)) (by rfl) (HO7.out.fr0 (F713)) (some ⟨(w7.drew.drewN nk).heap.size, 0, none⟩) 1 1 (bv [(us : Int)]) (by rfl) ((B13).rd0 1) rfl (bv_one _) (by simp only [maxLen]; omega) (by omega) (by have := HF7.out.size; have := (F713).size; omega) ?_
        intro v14 w14 O14 F14 K14 _
        obtain ⟨a14, k14, hv14, _, _, _⟩ := O14.form
        subst hv14
        have hS14 : Fr (ob (Value.slice a7 8 k7)) w7 w14 := hS13.trans1 F14
        refine effT_keep hS14 ?_
        simp only [pickN, Act.put, List.setIfInBounds_toArray, List.set_cons_zero, List.set_cons_succ]
        refine wpT_eff (by rfl) ?_
        refine wpList_appB rfl _ _ 33 33 rfl wr.heap.size 5 5 .u8 1 Try.underlying33 Try.underlying33 info_byte _ (8 + 1) _ (by rfl) O14 akt us _ (bv (tail.take us)) (by rfl) (by rw [bv_take]; exact (HK3.out.fr0 (HFR.out _ hS14)).takeN us) (by rw [bv_length, List.length_take]; omega) (bv_one _) (by simp only [maxLen]; omega) (by omega) (by have := (HFR.out _ hS14).size; omega) ?_
        intro v21 w21 O21 F21 K21 _
        obtain ⟨a21, k21, hv21, _, _, hr21⟩ := O21.form
        subst hv21
        have hS21 : Fr (ob (Value.slice a7 8 k7)) w7 w21 := hS14.trans F21 (fun k hk hlt => by
          rcases K14 with h14 | h14
          · rwa [h14] at hk
          · rw [h14] at hk
            rw [List.mem_singleton.1 hk] at hlt
            have := F713.size
            omega)
        refine effT_keep hS21 ?_
        simp only [pickN, Act.put, List.setIfInBounds_toArray, List.set_cons_zero, List.set_cons_succ]
        refine wpT_eff (by rfl) ?_
        have hbe : bv (le4 gen ++ le4 life) ++ bv [(us : Int)] ++ bv (tail.take us) = bv (blkL gen life (tail.take us)) := by
          rw [← bv_append, ← bv_append]
          congr 1
          unfold blkL
          rw [List.length_take, Nat.min_eq_left (by omega)]
          simp
        rw [hbe] at hr21
        have hbl : (blkL gen life (tail.take us)).length = 8 + 1 + us := by
          unfold blkL
          simp only [List.length_append, List.length_cons, List.length_take, le4, List.length_nil]
          omega
        refine wpList_callC rfl 57 #[.pointer (some ⟨p, 0, none⟩), .int .i64 (placeP dk gen i), .slice a21 (8 + 1 + us) k21] (by simp only [pickN]; first | (go_simp; done) | (go_simp; rfl)) _ (write_all (HS.out.da.fr0 (HFR.out _ hS21)) (by have := (HFR.out _ hS21).size; omega) (placeP dk gen i) a21 (8 + 1 + us) k21 (blkL gen life (tail.take us)) hbl hr21 (by omega)) ?_
        rintro e w22 ⟨lvx, rfl, D22, F22, K22⟩
        refine ⟨_, rfl, effT_skip (by decide) (wpT_done ?_)⟩
        simp only [pickN, Act.put, List.setIfInBounds_toArray, List.set_cons_zero, List.set_cons_succ]
        have HE := Lib.hid (put_end HS.out HST.out HX.out HLOW.out hS21 D22 F22 K22 (HFR.out _ hS21) (le4_byt hgl.1 hgl.2 (by omega) HS.out.yt))
        clear D22 F22 K22 hr21 O21 O14 F21 F14 hS14 hS21 hbe
        go_wp2_with fail
        go_meet
        exact HE.out
      · refine wpList_buildSlice1 rfl 33 5 _ rfl [.int .u8 0] 1 1 Try.underlying33 (by kernel_rfl) (by simp) (by omega) (by omega) _ [.int .u8 us] (by rfl) (by rfl) (by simp) ?_
        intro w13 B13 F13 S13
        have hS13 := hS.trans0 F13
        refine effT_keep hS13 ?_
        simp only [pickN, Act.put, List.setIfInBounds_toArray, List.set_cons_zero, List.set_cons_succ]
        refine wpT_eff (by rfl) ?_
        refine wpList_callC rfl 64 #[.pointer (some ⟨q, 0, none⟩), .int .i64 i] (by simp only [pickN]; first | (go_simp; done) | (go_simp; rfl)) _ (place_calls (HS.out.da.fr0 (HFR.out _ hS13)) (HS.out.hq.fr (HFR.out _ hS13) (by simp)) i (by omega)) ?_
        rintro e w9 ⟨rfl, nk, rfl⟩
        have hS9 : Fr (ob (Value.slice a7 8 k7)) w7 (w13.drewN nk) := hS13.drewN nk
        have F713 : Fr [] w7 (w13.drewN nk) := (((Fr.refl [] w7).drew).trans0 F13).drewN nk
        refine ⟨_, rfl, effT_keep hS9 ?_⟩
        simp only [pickN, Act.put, List.setIfInBounds_toArray, List.set_cons_zero, List.set_cons_succ]
        refine wpT_eff (by rfl) ?_
        refine wpList_appB rfl _ _ 33 33 rfl wr.heap.size 5 5 .u8 1 Try.underlying33 Try.underlying33 info_byte _ 8 (bv (le4 gen ++ le4 life)) (by rfl) (HO7.out.fr0 (F713)) (some ⟨w7.drew.heap.size, 0, none⟩) 1 1 (bv [(us : Int)]) (by rfl) (((B13.drewN nk)).rd0 1) rfl (bv_one _) (by simp only [maxLen]; omega) (by omega) (by have := HF7.out.size; have := (F713).size; omega) ?_
        intro v14 w14 O14 F14 K14 _
        obtain ⟨a14, k14, hv14, _, _, _⟩ := O14.form
        subst hv14
        have hS14 : Fr (ob (Value.slice a7 8 k7)) w7 w14 := hS9.trans1 F14
        refine effT_keep hS14 ?_
        simp only [pickN, Act.put, List.setIfInBounds_toArray, List.set_cons_zero, List.set_cons_succ]
        refine wpT_eff (by rfl) ?_
        refine wpList_appB rfl _ _ 33 33 rfl wr.heap.size 5 5 .u8 1 Try.underlying33 Try.underlying33 info_byte _ (8 + 1) _ (by rfl) O14 akt us _ (bv (tail.take us)) (by rfl) (by rw [bv_take]; exact (HK3.out.fr0 (HFR.out _ hS14)).takeN us) (by rw [bv_length, List.length_take]; omega) (bv_one _) (by simp only [maxLen]; omega) (by omega) (by have := (HFR.out _ hS14).size; omega) ?_
        intro v21 w21 O21 F21 K21 _
        obtain ⟨a21, k21, hv21, _, _, hr21⟩ := O21.form
        subst hv21
        have hS21 : Fr (ob (Value.slice a7 8 k7)) w7 w21 := hS14.trans F21 (fun k hk hlt => by
          rcases K14 with h14 | h14
          · rwa [h14] at hk
          · rw [h14] at hk
            rw [List.mem_singleton.1 hk] at hlt
            have := F713.size
            omega)
        refine effT_keep hS21 ?_
        simp only [pickN, Act.put, List.setIfInBounds_toArray, List.set_cons_zero, List.set_cons_succ]
        refine wpT_eff (by rfl) ?_
        have hbe : bv (le4 gen ++ le4 life) ++ bv [(us : Int)] ++ bv (tail.take us) = bv (blkL gen life (tail.take us)) := by
          rw [← bv_append, ← bv_append]
          congr 1
          unfold blkL
          rw [List.length_take, Nat.min_eq_left (by omega)]
          simp
        rw [hbe] at hr21
        have hbl : (blkL gen life (tail.take us)).length = 8 + 1 + us := by
          unfold blkL
          simp only [List.length_append, List.length_cons, List.length_take, le4, List.length_nil]
          omega
        refine wpList_callC rfl 57 #[.pointer (some ⟨p, 0, none⟩), .int .i64 (placeP dk gen i), .slice a21 (8 + 1 + us) k21] (by simp only [pickN]; first | (go_simp; done) | (go_simp; rfl)) _ (write_all (HS.out.da.fr0 (HFR.out _ hS21)) (by have := (HFR.out _ hS21).size; omega) (placeP dk gen i) a21 (8 + 1 + us) k21 (blkL gen life (tail.take us)) hbl hr21 (by omega)) ?_
        rintro e w22 ⟨lvx, rfl, D22, F22, K22⟩
        refine ⟨_, rfl, effT_skip (by decide) (wpT_done ?_)⟩
        simp only [pickN, Act.put, List.setIfInBounds_toArray, List.set_cons_zero, List.set_cons_succ]
        have HE := Lib.hid (put_end HS.out HST.out HX.out HLOW.out hS21 D22 F22 K22 (HFR.out _ hS21) (le4_byt hgl.1 hgl.2 (by omega) HS.out.yt))
        clear D22 F22 K22 hr21 O21 O14 F21 F14 hS14 hS21 hbe
        go_wp2_with fail
        go_meet
        exact HE.out
    obtain ⟨lvx, hSx, hstx, hXx⟩ := hcut
    have hRK := HRK.out
    rw [putP] at hRK
    have HX2 := Lib.hid (And.intro hSx (And.intro hstx hXx))
    have cx3 : wc.cell? ⟨q, 3, none⟩ = some (.slice akt tail.length kkt) := hSx.hq.cellAt rfl
    clear hSx hstx hXx HS HST HX HRK HK3 HO6 HF6 HO7 HF7 HLOW HFR HOB7 d0 d3 d4 hw8
    by_cases h55 : tail.length < 55
    · have hu := HU.out.1 h55
      have hu' : (us : Int) < 55 := by omega
      have htk : tail.take us = tail := List.take_of_length_le (by omega)
      rw [htk] at HX2
      rw [if_pos h55] at hRK
      have HRK := Lib.hid hRK
      clear hRK hu htk
      go_wp2_with fail
      refine bodyPost_ret (results_none rfl _ _ _) rfl ?_
      rw [HXE.out]
      refine ⟨⟨_, rfl⟩, lvx, .slice akt tail.length kkt, ?_, HX2.out.2.1, HX2.out.2.2⟩
      rw [HRK.out]
      exact HX2.out.1
    · have hu := HU.out.2 h55
      subst hu
      rw [if_neg h55] at hRK
      have HRK := Lib.hid hRK
      clear hRK
      obtain ⟨aR, hRR, hsl⟩ := slice_l (P := Try.prog) Try.underlying33 (by kernel_rfl : (Try.prog.info? 5).map (·.size) = some 1) akt tail.length kkt 55 55 rfl (by omega) hk1
      have hrd : Rd wc aR (bv (tail.drop 55)) := by
        rw [bv_drop]
        exact hRR wc _ (HX2.out.1.ht.rdS (X := fun _ => False) (fun _ _ h => h)).1.rd (by simp)
      have HRD := Lib.hid hrd
      have hlx : (tail.drop 55).length = tail.length - 55 := List.length_drop
      have HLX := Lib.hid hlx
      have hszc : base ≤ wc.heap.size := by have := HX2.out.2.1.size; omega
      clear hRR hrd hlx
      go_wp2_with (first
        | (refine wpList_appB rfl _ _ 33 33 rfl wc.heap.size 5 5 .u8 1 Try.underlying33 Try.underlying33 info_byte _ 0 [] (by rfl) (Own.nil _ _ _ _) aR (tail.length - 55) _ (bv (tail.drop 55)) (by rfl) HRD.out (by rw [bv_length]; exact HLX.out) (bv_one _) (by simp only [maxLen]; omega) (by omega) (Nat.le_refl _) ?_; intro v8 w8 O8 F8 K8 N8; obtain ⟨a8, k8, hv8, _, _, _⟩ := O8.form; subst hv8; rw [List.nil_append, Nat.zero_add] at O8; have HO8 := Lib.hid O8; have HF8 := Lib.hid (show Fr [] wc w8 from F8); clear O8 F8 K8 N8)
        | (refine wpList_store1 rfl 33 _ _ rfl q 3 (.slice a8 (tail.length - 55) k8) (by rfl) (by rfl) rfl 103 _ (HX2.out.1.hq.fr HF8.out (by simp)) (by simp [sto]) (by kernel_rfl) rfl ?_; intro w9 B9 F9 S9; have HB9 := Lib.hid (show Blk w9 q 103 (sto p gen life (.slice a8 (tail.length - 55) k8) i count safe) from B9); have HF9 := Lib.hid F9; have c94 : w9.cell? ⟨q, 4, none⟩ = some (.int .i64 i) := HB9.out.cellAt rfl; clear B9 F9 S9)
        | (refine wpList_store1 rfl 3 _ _ rfl q 4 (.int .i64 ((i : Int) + 1)) (by rfl) (by rfl) rfl 103 _ HB9.out (by simp [sto]) (by kernel_rfl) rfl ?_; intro w10 B10 F10 S10; have HB10 := Lib.hid (show Blk w10 q 103 (sto p gen life (.slice a8 (tail.length - 55) k8) ((i : Int) + 1) count safe) from B10); have HF10 := Lib.hid F10; have c103 : w10.cell? ⟨q, 3, none⟩ = some (.slice a8 (tail.length - 55) k8) := HB10.out.cellAt rfl; clear B10 F10 S10))
      all_goals
        have hF10 : Fr [q] wc w10 := ((HF8.out.ext (S := [q])).trans1 HF9.out).trans1 HF10.out
        have hzq : stoX p bb q lvx (.slice akt tail.length kkt) q := .inl rfl
        have hS10 : StoAt w10 base p bb q lvx (.slice a8 (tail.length - 55) k8) (dk.putB gen life i (tail.take 55)) ⟨gen, life, tail.drop 55, i + 1, count, safe⟩ := by
          have hqd : ∀ k ∈ p :: bb :: ob lvx, k ∉ [q] := fun k hk hm => by
            have e := List.mem_singleton.1 hm
            subst e
            simp only [List.mem_cons] at hk
            rcases hk with hk | hk | hk
            · exact HX2.out.1.hq.ne HX2.out.1.da.hp (by decide) hk
            · exact HX2.out.1.hq.ne HX2.out.1.da.hb (by decide) hk
            · obtain ⟨cur, hc⟩ := HX2.out.1.da.hl.blkOf hk
              exact HX2.out.1.hq.ne hc (by decide) rfl
          refine ⟨HX2.out.1.da.fr hF10 (hqd p (by simp)) (hqd bb (by simp)) (fun k hk => hqd k (by simp [hk])), HX2.out.1.yd, by have := HB10.out; simpa [sto] using this, ?_, HX2.out.1.yt.drop 55, HX2.out.1.bq, hgl.1, hgl.2⟩
          have ho := (HO8.out.fr HF9.out (fun k hk hm => by have := (HO8.out.lt hk).1; have := HX2.out.1.hq.lt; have := List.mem_singleton.1 hm; omega)).fr HF10.out (fun k hk hm => by have := (HO8.out.lt hk).1; have := HX2.out.1.hq.lt; have := List.mem_singleton.1 hm; omega)
          have ho2 := ho.base hszc
          dsimp only
          rw [HLX.out]
          exact ho2
        have hst10 : Stp X w w10 := HX2.out.2.1.trans (hF10.x (fun k hk => by rw [List.mem_singleton.1 hk]; exact HX2.out.2.2 q hzq))
        have hX10 : ∀ k, stoX p bb q lvx (.slice a8 (tail.length - 55) k8) k → X k ∨ w.heap.size ≤ k := fun k hk => by
          rcases hk with hk | hk | hk
          · exact HX2.out.2.2 k (.inl hk)
          · exact HX2.out.2.2 k (.inr (.inl hk))
          · have h1 := (HO8.out.lt hk).1
            have h2 := HX2.out.2.1.size
            exact .inr (by omega)
      · have hz : ((tail.length - 55 : Nat) : Int) = 0 := by
          have := by assumption
          simpa using (‹(((tail.length - 55 : Nat) : Int) == 0) = true›)
        have h5 : tail.length = 55 := by omega
        refine bodyPost_ret (results_none rfl _ _ _) rfl ?_
        rw [HXE.out]
        refine ⟨⟨_, rfl⟩, lvx, _, ?_, hst10, hX10⟩
        rw [HRK.out, if_pos h5]
        have e1 : tail.drop 55 = [] := List.drop_eq_nil_of_le (by omega)
        have e2 : tail.take 55 = tail := List.take_of_length_le (by omega)
        rw [e1, e2] at hS10
        exact hS10
      · have hz : ¬ ((tail.length - 55 : Nat) : Int) = 0 := by
          simpa using (‹(((tail.length - 55 : Nat) : Int) == 0) = false›)
        have h5 : ¬ tail.length = 55 := by omega
        have hlo : (dk.putB gen life i (tail.take 55)).loose.length ≤ dk.loose.length + 1 := write_loose _ _ _
        obtain ⟨f', rfl⟩ : ∃ f', f = f' + 1 := ⟨f - 1, by omega⟩
        have hmeas : tlen q w10 < tlen q wr := by
          have e1 : tlen q w10 = tail.length - 55 := by unfold tlen; rw [HB10.out.cellAt rfl]
          have e2 : tlen q wr = tail.length := by unfold tlen; rw [c3]
          omega
        have hrel : PutR w base p bb q X gen life count safe few r w10 := ⟨f', _, tail.drop 55, i + 1, lvx, _, hS10, by rw [HLX.out]; omega, by rw [HRK.out, if_neg h5], hst10, hX10, by omega, by omega⟩
        go_roundw
        case rel => exact hrel
        case measure => exact hmeas
end Go.Fur
namespace Go.Fur
open Go Go.RowKit Go.Proofs
set_option linter.unusedVariables false
set_option linter.unusedSimpArgs false
def fitsB (d : D) (s : St) (n : Nat) : Bool := decide (n + s.tail.length + s.at_ * 55 ≤ halfP d * 55)
theorem halfP_le {d : D} (h : d.wf) : halfP d ≤ 32768 := by have := h.max; unfold halfP; omega
set_option maxRecDepth 100000 in
set_option maxHeartbeats 2000000 in
theorem fits_calls {w : World} {base p bb q : Nat} {lv tl : Value} {d : D} {s : St} (h : StoAt w base p bb q lv tl d s) (n : Nat) (hn : n ≤ 1000000000) (hi : s.at_ ≤ 40000) (ht : s.tail.length ≤ 1000) :
    Calls Try.prog 58 #[.pointer (some ⟨q, 0, none⟩), .int .i64 n] w fun e w' => e = .returned (.bool (fitsB d s n)) ∧ ∃ k, w' = w.drewN k := by
  obtain ⟨a0, k0, rfl, _, _, _⟩ := h.ht.form
  have HH := Lib.hid (fun (W : World) (f : Fr [] w W) => (half_calls (h.da.fr0 f) (h.hq.fr f (by simp))).mono (R' := fun e w' => e = .returned (.int .i64 (halfP d)) ∧ w' = W) (fun e w' hh => ⟨hh.1, hh.2.symm⟩))
  have c4 : w.cell? ⟨q, 4, none⟩ = some (.int .i64 s.at_) := h.hq.cellAt rfl
  have c3 : w.cell? ⟨q, 3, none⟩ = some (.slice a0 s.tail.length k0) := h.hq.cellAt rfl
  have hh := halfP_le h.da.wf
  have hfit : fitsB d s n = decide ((n : Int) ≤ ((halfP d : Int) - (s.at_ : Int)) * 55 - (s.tail.length : Int)) := by
    unfold fitsB
    rw [decide_eq_decide]
    omega
  have HF := Lib.hid hfit
  clear h hfit
  generalize halfP d = n2 at *
  go_enter Try.func58, Try.ntmps58
  go_wp2_with fail
  go_quiet ((refine Calls.quiet_of_same (HH.out _ ?_); exact (Fr.refl _ _).drewN _))
  go_wp2_with fail
  go_ret
  refine ⟨?_, nq, rfl⟩
  rw [HF.out]
  rfl
/-- Append(l): the errno, the disk and the store behind it. -/
def appS (d : D) (s : St) (l : List Int) : Int × D × St :=
  if 65536 < l.length then (3, d, s)
  else if fitsB d s (l.length + 4) = false then (10, d, s)
  else (0, (putS d s (le4 l.length ++ l)).1, { (putS d s (le4 l.length ++ l)).2 with count := s.count + 1 })
theorem Stp.refl (X : Nat → Prop) (w : World) : Stp X w w := ⟨[], Fr.refl _ _, by simp⟩
theorem Stp.of {X : Nat → Prop} {w w' : World} {S : List Nat} (f : Fr S w w') (h : ∀ k ∈ S, X k ∨ w.heap.size ≤ k) : Stp X w w' := f.x h
theorem Stp.trans {X X' : Nat → Prop} {a b c : World} (h : Stp X a b) (k : Stp X' b c) (hX : ∀ i, X' i → X i ∨ a.heap.size ≤ i) : Stp X a c := by
  have hs := h.size
  obtain ⟨T, f, hT⟩ := k
  exact FrX.trans h ⟨T, f, fun i hi => by
    rcases hT i hi with h1 | h1
    · exact hX i h1
    · exact .inr (by omega)⟩
theorem StoAt.fr0 {w w' : World} {base p bb q : Nat} {lv tl : Value} {d : D} {s : St} (h : StoAt w base p bb q lv tl d s) (f : Fr [] w w') : StoAt w' base p bb q lv tl d s :=
  ⟨h.da.fr0 f, h.yd, h.hq.fr f (by simp), h.ht.fr0 f, h.yt, h.bq, h.g32, h.l32⟩
/-- A store's own cells are turned. -/
theorem StoAt.cell {w w' : World} {base p bb q : Nat} {lv tl : Value} {d : D} {s s' : St} (h : StoAt w base p bb q lv tl d s) (f : Fr [q] w w') (hq : Blk w' q 103 (sto p s'.gen s'.life tl s'.at_ s'.count s'.safe)) (ht : s'.tail = s.tail) (hg : s'.gen < 4294967296) (hl : s'.life < 4294967296) : StoAt w' base p bb q lv tl d s' := by
  have hqd : ∀ k ∈ p :: bb :: ob lv, k ∉ [q] := fun k hk hm => by
    have e := List.mem_singleton.1 hm
    subst e
    simp only [List.mem_cons] at hk
    rcases hk with hk | hk | hk
    · exact h.hq.ne h.da.hp (by decide) hk
    · exact h.hq.ne h.da.hb (by decide) hk
    · obtain ⟨cur, hc⟩ := h.da.hl.blkOf hk
      exact h.hq.ne hc (by decide) rfl
  refine ⟨h.da.fr f (hqd p (by simp)) (hqd bb (by simp)) (fun k hk => hqd k (by simp [hk])), h.yd, hq, ?_, by rw [ht]; exact h.yt, h.bq, hg, hl⟩
  rw [ht]
  exact h.ht.fr f (fun k hk hm => by
    obtain ⟨cur, hc⟩ := h.ht.blkOf hk
    exact hc.ne h.hq (by decide) (List.mem_singleton.1 hm))
set_option maxRecDepth 100000 in
set_option maxHeartbeats 4000000 in
theorem append_calls {w : World} {base p bb q : Nat} {lv tl : Value} {d : D} {s : St} (h : StoAt w base p bb q lv tl d s) (hbase : base ≤ w.heap.size) (a : Option Addr) (m c : Nat) (l : List Int) (hm : l.length = m) (hr : Rd w a (bv l)) (hl : Byt l) (hmc : m ≤ maxLen)
    (ht : s.tail.length < 55) (hi : s.at_ ≤ 40000) (hc : s.count < 1000000000) (hfew : d.loose.length + 20100 < 1000000000) :
    Calls Try.prog 42 #[.pointer (some ⟨q, 0, none⟩), .slice a m c] w fun e w' => ∃ lv' tl', e = .returned (.int .i64 (appS d s l).1) ∧ StoAt w' base p bb q lv' tl' (appS d s l).2.1 (appS d s l).2.2 ∧ Stp (stoX p bb q lv tl) w w' ∧ ∀ k, stoX p bb q lv' tl' k → stoX p bb q lv tl k ∨ w.heap.size ≤ k := by
  have hm63 : m ≤ 9223372036854775807 := by unfold maxLen at hmc; exact hmc
  have HH := Lib.hid h
  have HR := Lib.hid hr
  have HL := Lib.hid hl
  unfold appS
  rw [hm]
  have HM := Lib.hid hm
  by_cases hbig : 65536 < m
  · have hb1 : (65536 : Int) < (m : Int) := by omega
    rw [if_pos hbig]
    clear h hr hl hm
    go_enter Try.func42, Try.ntmps42
    go_wp2_with fail
    go_ret
    exact ⟨lv, tl, rfl, HH.out, Stp.refl _ _, fun k hk => .inl hk⟩
  · have hb1 : ¬ (65536 : Int) < (m : Int) := by omega
    rw [if_neg hbig]
    have HF := Lib.hid (fits_calls h (m + 4) (by omega) hi (by omega))
    clear h hr hl hm
    by_cases hfit : fitsB d s (m + 4) = false
    · rw [if_pos hfit]
      rw [hfit] at HF
      clear hfit
      go_enter Try.func42, Try.ntmps42
      go_wp2_with fail
      refine HF.out.mono ?_
      rintro e w1 ⟨rfl, nk, rfl⟩
      dsimp only
      go_wp2_with fail
      go_ret
      exact ⟨lv, tl, rfl, HH.out.fr0 ((Fr.refl [] w).drewN nk), Stp.of ((Fr.refl [] w).drewN nk) (by simp), fun k hk => .inl hk⟩
    · rw [if_neg hfit]
      have hft : fitsB d s (m + 4) = true := by simpa using hfit
      rw [hft] at HF
      have hle : (le4 m ++ l).length = 4 + m := by rw [List.length_append, HM.out]; rfl
      obtain ⟨r, hr⟩ : ∃ r, putS d s (le4 m ++ l) = r := ⟨_, rfl⟩
      rw [hr]
      have HRR := Lib.hid hr
      have HLE := Lib.hid hle
      clear hfit hft hr hle
      have hw32 : IntKind.u32.wrap (m : Int) = (m : Int) := IntWalk.u32_in _ ⟨by omega, by omega⟩
      go_enter Try.func42, Try.ntmps42
      go_wp2_with fail
      refine HF.out.mono ?_
      rintro e w1 ⟨rfl, nk, rfl⟩
      have HF1 := Lib.hid ((Fr.refl [] w).drewN nk)
      have hz1 : (w.drewN nk).heap.size = w.heap.size := rfl
      dsimp only
      generalize w.drewN nk = w1 at *
      go_wp2_with fail
      refine (put4_calls (n := 0) (l := []) (Own.nil w1 w1.heap.size 5 1) (by omega) (Nat.le_refl _) m (by omega)).mono ?_
      rintro e w2 ⟨v2, rfl, O2, F2, K2⟩
      rw [Nat.zero_add, List.nil_append] at O2
      obtain ⟨a2, k2, rfl, _, _, _⟩ := O2.form
      have HO2 := Lib.hid O2
      have HF2 := Lib.hid (show Fr [] w1 w2 from F2)
      clear O2 F2 K2
      dsimp only
      go_wp2_with (refine wpList_appB rfl _ _ 33 33 rfl w1.heap.size 5 5 .u8 1 Try.underlying33 Try.underlying33 info_byte _ 4 (bv (le4 m)) (by rfl) HO2.out a m _ (bv l) (by rfl) ((HR.out.fr0 HF1.out).fr0 HF2.out) (by rw [bv_length]; exact HM.out) (bv_one _) (by simp only [maxLen]; omega) (by omega) (by have := HF2.out.size; omega) ?_; intro v3 w3 O3 F3 K3 _; obtain ⟨a3, k3, hv3, _, _, hr3⟩ := O3.form; subst hv3; rw [← bv_append] at hr3; have HR3 := Lib.hid hr3; have HF3 := Lib.hid (HF2.out.trans F3 (fun k hk hlt => by have := (HO2.out.lt hk).1; omega)); clear O3 F3 K3 hr3)
      have hle4 : Byt (le4 m ++ l) := by
        refine Byt.append (fun y hy => ?_) HL.out
        simp only [le4, List.mem_cons, List.not_mem_nil, or_false] at hy
        omega
      have hf13 := HF1.out.trans0 HF3.out
      refine (putS_calls (HH.out.fr0 hf13) (by have := hf13.size; omega) a3 (4 + m) k3 (le4 m ++ l) HLE.out HR3.out hle4 ht (by omega) hi hfew).mono ?_
      rintro e w4 ⟨⟨ve, rfl⟩, lv4, tl4, S4, st4, X4⟩
      rw [HRR.out] at S4
      have hr2 : r.2.count = s.count ∧ r.2.safe = s.safe := by rw [← HRR.out]; exact ⟨rfl, rfl⟩
      have c5 : w4.cell? ⟨q, 5, none⟩ = some (.int .i64 s.count) := by rw [← hr2.1]; exact S4.hq.cellAt rfl
      have HS4 := Lib.hid S4
      have HST4 := Lib.hid (show Stp (stoX p bb q lv tl) w w4 from Stp.trans (Stp.of hf13 (by simp)) st4 (fun k hk => .inl hk))
      have HX4 := Lib.hid (fun k hk => (X4 k hk).imp id (fun h => Nat.le_trans hf13.size h))
      have HR2 := Lib.hid hr2
      clear S4 st4 X4 hf13 hle4 hr2 hz1
      dsimp only
      go_wp2_with (refine wpList_store1 rfl 3 _ _ rfl q 5 (.int .i64 ((s.count : Int) + 1)) (by rfl) (by rfl) rfl 103 _ HS4.out.hq (by simp [sto]) (by kernel_rfl) rfl ?_; intro w5 B5 F5 S5; have HB5 := Lib.hid (show Blk w5 q 103 (sto p r.2.gen r.2.life tl4 r.2.at_ ((s.count : Int) + 1) r.2.safe) from B5); have HF5 := Lib.hid F5; clear B5 F5 S5)
      go_ret
      refine ⟨lv4, tl4, rfl, HS4.out.cell HF5.out (by simpa using HB5.out) rfl HS4.out.g32 HS4.out.l32, HST4.out.trans (Stp.of (X := stoX p bb q lv4 tl4) HF5.out (fun k hk => by rw [List.mem_singleton.1 hk]; exact .inl (.inl rfl))) HX4.out, HX4.out⟩
theorem stoX_ge {w : World} {base p bb q : Nat} {lv tl : Value} {d : D} {s : St} (h : StoAt w base p bb q lv tl d s) {k : Nat} (hk : stoX p bb q lv tl k) : base ≤ k ∧ k < w.heap.size := by
  rcases hk with hk | hk | hk
  · subst hk
    exact ⟨h.bq, h.hq.lt⟩
  · exact ⟨h.da.ge k hk, h.da.lt k hk⟩
  · exact h.ht.lt hk
theorem Bs.frX {w w' : World} {X X' : Nat → Prop} {v : Value} {l : List Int} (h : Bs w X v l) (f : FrX (fun k => X k ∨ w.heap.size ≤ k) w w') (hX : ∀ k, X' k → X k ∨ w.heap.size ≤ k) : Bs w' X' v l := by
  obtain ⟨T, f, hT⟩ := f
  exact h.step f hT hX
theorem RdA.frX {w w' : World} {X X' : Nat → Prop} {a : Option Addr} {cs : List Value} (h : RdA w X a cs) (f : FrX (fun k => X k ∨ w.heap.size ≤ k) w w') (hX : ∀ k, X' k → X k ∨ w.heap.size ≤ k) : RdA w' X' a cs := by
  obtain ⟨T, f, hT⟩ := f
  exact h.step f hT hX
theorem AllB.frX {w w' : World} {X X' : Nat → Prop} {vs : List Value} {ls : List (List Int)} (h : AllB w X vs ls) (f : FrX (fun k => X k ∨ w.heap.size ≤ k) w w') (hX : ∀ k, X' k → X k ∨ w.heap.size ≤ k) : AllB w' X' vs ls := by
  obtain ⟨T, f, hT⟩ := f
  exact h.step f hT hX
theorem Stp.more {X Y : Nat → Prop} {w w' : World} (h : Stp X w w') (hXY : ∀ k, X k → Y k) : Stp Y w w' := by
  obtain ⟨T, f, hT⟩ := h
  exact ⟨T, f, fun k hk => (hT k hk).imp (hXY k) id⟩
theorem Blk.stp {X : Nat → Prop} {w w' : World} {g : Nat} {t : TypeId} {cs : List Value} (h : Blk w g t cs) (f : Stp X w w') (hg : ¬ X g) : Blk w' g t cs := by
  refine h.frX f (fun hh => ?_)
  rcases hh with hh | hh
  · exact hg hh
  · have := h.lt
    omega
theorem Stp.base {X : Nat → Prop} {W w w' : World} (f : Fr [] W w) (h : Stp X w w') (hX : ∀ k, X k → W.heap.size ≤ k) : Fr [] W w' := by
  obtain ⟨T, g, hT⟩ := h
  refine f.trans g (fun k hk hlt => ?_)
  rcases hT k hk with h1 | h1
  · have := hX k h1
    omega
  · have := f.size
    omega
end Go.Fur
