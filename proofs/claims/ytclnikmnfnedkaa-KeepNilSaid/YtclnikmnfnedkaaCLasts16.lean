/- KeepLasts: the walk. -/
import Derived.Test.YtclnikmnfnedkaaCHolds16
namespace Go.Fur
open Go Go.RowKit Go.Proofs
set_option linter.unusedVariables false
set_option linter.unusedSimpArgs false
theorem voteE_ok {k : KP} {t v : Int} (h : ¬ (t < 0 ∨ t < k.term ∨ v < -1)) : voteE k t v = (0, { k with term := t, vote := v }) := if_neg h
theorem putR_ok {k : KP} {i t : Int} {l : List Int} (h : ¬ (i ≤ k.base ∨ k.last + 1 < i ∨ t < 0 ∨ 60000 < l.length)) : putR k i t l = (0, putE k i t l) := if_neg h
theorem putE_len {k : KP} {j : Nat} {t : Int} {l : List Int} (h0 : k.base = 0) (hj : k.es.length = j) : (putE k ((j : Int) + 1) t l).base = 0 ∧ (putE k ((j : Int) + 1) t l).es.length = j + 1 ∧ (putE k ((j : Int) + 1) t l).term = k.term := by
  refine ⟨h0, ?_, rfl⟩
  show (k.es.take ((j : Int) + 1 - k.base - 1).toNat ++ [(t, l)]).length = j + 1
  rw [List.length_append, List.length_take, h0, List.length_singleton]
  omega
theorem putR_snoc {k : KP} {j : Nat} {t : Int} {l : List Int} (h0 : k.base = 0) (hj : k.es.length = j) (ht : 0 ≤ t) (hl : l.length ≤ 60000) : putR k ((j : Int) + 1) t l = (0, putE k ((j : Int) + 1) t l) := by
  refine putR_ok ?_
  have : k.last = k.base + k.es.length := rfl
  rw [this, h0, hj]
  omega
/-- It was the same but for the term, that did not sink, and the vote. -/
def Bys (k a : KP) : Prop := k.term ≤ a.term ∧ ({ a with term := k.term, vote := k.vote } : KP) = k
theorem Bys.vote {k a : KP} (h : Bys k a) {lst : List KP} (hl : ∀ b ∈ lst, Bys k b) (t v : Int) : Bys k (voteE a t v).2 ∧ ∀ b ∈ chgL lst (voteE a t v).2 (voteE a t v).1 false, Bys k b := by
  have h1 : Bys k (voteE a t v).2 := by
    unfold voteE
    split
    · exact h
    · rename_i hb
      exact ⟨by show k.term ≤ t; have := h.1; omega, h.2⟩
  refine ⟨h1, fun b hb => ?_⟩
  unfold chgL at hb
  split at hb
  · rw [if_neg (by decide)] at hb
    rcases List.mem_append.1 hb with hb | hb
    · exact hl b hb
    · rw [List.mem_singleton.1 hb]
      exact h1
  · exact hl b hb
theorem RefL.bys {w : World} {X : Nat → Prop} {vs ve : Value} {k a : KP} (h : RefL w X (refC a vs ve) a) (hb : Bys k a) : RefL w X (refC k vs ve) k := by
  obtain ⟨vs', ve', he, h1, h2⟩ := h
  have e1 : vs = vs' ∧ ve = ve' := by simpa [refC] using he
  obtain ⟨rfl, rfl⟩ := e1
  have e2 := congrArg KP.snap hb.2
  have e3 := congrArg KP.es hb.2
  dsimp only at e2 e3
  exact ⟨vs, ve, rfl, e2 ▸ h1, e3 ▸ h2⟩
/-- Between the rounds that put. -/
def LsR (W : World) (x p K g m : Nat) (i tv : Value) (wr : World) : Prop :=
  ∃ (j t : Nat) (k : KP) (lst : List KP), j ≤ m ∧ j ≤ 60 ∧ t ≤ j ∧ i = .int .i64 j ∧ tv = .int .i64 t ∧ Kd W (fun b => b = x) 65536 (3000 * j) (2 * j) p K k lst wr ∧ k.base = 0 ∧ k.es.length = j ∧ k.term = t ∧ Blk wr x 30 [.pointer (some ⟨p, 0, none⟩), .pointer (some ⟨K, 0, none⟩), .slice (some ⟨g, 0, none⟩) 1 1]
/-- Between the rounds that vote. -/
def LmR (W w0 : World) (Z : Nat → Prop) (p K m B N : Nat) (k0 : KP) (i : Value) (wr : World) : Prop :=
  ∃ (j : Nat) (k : KP) (lst : List KP), j ≤ m ∧ j ≤ 40 ∧ i = .int .i64 j ∧ Kd W Z 65536 B (N + j) p K k lst wr ∧ Bys k0 k ∧ (∀ a ∈ lst, Bys k0 a) ∧ Keeps Z w0 wr
set_option maxRecDepth 100000 in
set_option maxHeartbeats 8000000 in
theorem KeepLasts_walk (W : World) (ls : SlV (SlV Int)) (hls : rBss.ok W ls) (vo : SlV Int) (hvo : rInts.ok W vo) (ops : SlV Op16) (hops : rOps.ok W ops) (kp : Int) (hkp : rInt.ok W kp) :
    Calls Try.prog 3 #[ls.val, vo.val, ops.val, .int .i64 kp] W fun e w' => e = .returned (.bool true) ∧ Below W.heap.size W w' := by
  simp only [SlV.val]
  have HL := Lib.hid hls
  have HV := Lib.hid hvo
  have HO2 := Lib.hid hops
  clear hls hvo hops hkp
  by_cases h1 : (60 : Int) < (ls.xs.length : Int)
  · go_enter Try.func3, Try.ntmps3
    go_wp2_with fail
    refine (awake_calls W).mono ?_
    rintro e w1 ⟨rfl, F1⟩
    have HF1 := Lib.hid F1
    clear F1
    dsimp only
    go_wp2_with fail
    go_ret
    exact ⟨rfl, HF1.out.below (Nat.le_refl _) (by simp)⟩
  by_cases h2 : (40 : Int) < (ops.xs.length : Int)
  · go_enter Try.func3, Try.ntmps3
    go_wp2_with fail
    refine (awake_calls W).mono ?_
    rintro e w1 ⟨rfl, F1⟩
    have HF1 := Lib.hid F1
    clear F1
    dsimp only
    go_wp2_with fail
    go_ret
    exact ⟨rfl, HF1.out.below (Nat.le_refl _) (by simp)⟩
  by_cases h3 : kp < 0
  · go_enter Try.func3, Try.ntmps3
    go_wp2_with fail
    refine (awake_calls W).mono ?_
    rintro e w1 ⟨rfl, F1⟩
    have HF1 := Lib.hid F1
    clear F1
    dsimp only
    go_wp2_with fail
    go_ret
    exact ⟨rfl, HF1.out.below (Nat.le_refl _) (by simp)⟩
  go_enter Try.func3, Try.ntmps3
  go_wp2_with fail
  refine (awake_calls W).mono ?_
  rintro e w1 ⟨rfl, F1⟩
  have HF1 := Lib.hid F1
  clear F1
  dsimp only
  go_wp2_with fail
  refine (begin_calls w1).mono ?_
  rintro e w2 ⟨p, K, g, M, rfl, hO, _, _, _⟩
  have HK2 := Lib.hid ((Kd.new hO).base HF1.out)
  clear hO
  have hd3 : ∀ v ∈ [Value.pointer (some ⟨p, 0, none⟩), .pointer (some ⟨K, 0, none⟩), .slice (some ⟨g, 0, none⟩) 1 1], v.oneCell' = true := by simp [Value.oneCell']
  dsimp only
  go_upto_region 6 with (first
    | (refine wpList_allocZ rfl 30 rfl _ desk_zero ?_; intro w3 B3 F3 S3)
    | (refine wpList_storeB rfl 30 _ _ rfl w2.heap.size 0 [.pointer (some ⟨p, 0, none⟩), .pointer (some ⟨K, 0, none⟩), .slice (some ⟨g, 0, none⟩) 1 1] (by rfl) (by rfl) 30 _ B3 (by simp [zD]) desk_size hd3 ?_; intro w4 B4 F4 S4; rw [splice_all _ _ (by rfl)] at B4; have hF24 : Fr [] w2 w4 := F3.trans F4 (fun x hx hlt => by simp at hx; omega); have HK4 := Lib.hid (And.intro ((HK2.out.wide hF24).less (Z' := fun b => b = w2.heap.size) (fun b hb => .inr (by have := B4.lt; omega))) B4); clear B3 F3 S3 B4 F4 S4 hF24))
  obtain ⟨x, hx⟩ : ∃ x, w2.heap.size = x := ⟨_, rfl⟩
  rw [hx] at HK4 ⊢
  clear hx hd3
  have R0 := Lib.hid (show LsR W x p K g ls.xs.length (.int .i64 (0 : Nat)) (.int .i64 (0 : Nat)) w4 from ⟨0, 0, _, _, Nat.zero_le _, Nat.zero_le _, Nat.le_refl _, rfl, rfl, HK4.out.1, rfl, rfl, rfl, HK4.out.2⟩)
  go_wp2_with fail
  go_loopw [43, 11] (fun i tv wr => LsR W x p K g ls.xs.length i tv wr) (fun i _ _ => ls.xs.length - (intOf i).toNat)
  case atStart => exact R0.out
  case round =>
    obtain ⟨j, t, k, lst, hj, hj6, htj, rfl, rfl, hKd, hb0, hel, htt, hX⟩ := hrel
    have HD := Lib.hid (And.intro hKd (And.intro hX (And.intro hb0 (And.intro hel htt))))
    have c1 : wr.cell? ⟨x, 1, none⟩ = some (.pointer (some ⟨K, 0, none⟩)) := hX.cellAt rfl
    clear hKd hX hb0 hel htt
    by_cases hlt : j < ls.xs.length
    · obtain ⟨o, ho⟩ : ∃ o, ls.xs[j]? = some o := ⟨_, List.getElem?_eq_getElem hlt⟩
      obtain ⟨b, off, ha, hr, hbl, hp⟩ := sl_at HL.out SlV.val (fun _ => rfl) j o ho
      obtain ⟨obt, or1, ole, ocap⟩ := bytes_ok hp
      have i0 : (0 : Int) ≤ (j : Int) := by omega
      have i3 : (j : Int) < (ls.xs.length : Int) := by omega
      have c0 : wr.cell? ⟨b, off + j, none⟩ = some (.slice o.a o.xs.length o.cap) := by
        have := rangeAt_fr hr HD.out.1.fr (by simp) 0 _ rfl
        rwa [Nat.add_zero] at this
      rw [ha]
      have HO := Lib.hid (And.intro obt or1.own)
      have HA := Lib.hid ha
      clear hr hp obt or1 ha ho
      by_cases hbig : (3000 : Int) < (o.xs.length : Int)
      · go_wp2_with fail
        go_ret
        exact ⟨rfl, HD.out.1.fr.below (Nat.le_refl _) (by simp)⟩
      · go_upto_region 14 with fail
        by_cases hkl : j < vo.xs.length
        · obtain ⟨y, hy⟩ : ∃ y, vo.xs[j]? = some y := ⟨_, List.getElem?_eq_getElem hkl⟩
          obtain ⟨b2, off2, ha2, hr2, hbl2, hp2⟩ := sl_at HV.out (fun y => .int .i64 y) (fun _ => rfl) j y hy
          obtain ⟨y1, y2⟩ := int_ok hp2
          have i5 : (j : Int) < (vo.xs.length : Int) := by omega
          have c9 : wr.cell? ⟨b2, off2 + j, none⟩ = some (.int .i64 y) := by
            have := rangeAt_fr hr2 HD.out.1.fr (by simp) 0 _ rfl
            rwa [Nat.add_zero] at this
          have HA2 := Lib.hid ha2
          have HR2 := Lib.hid hr2
          rw [ha2]
          clear hr2 ha2 hy hp2
          by_cases hy0 : y < 0
          · go_wp2_with fail
            rw [← HA2.out]
            refine (Kd.put (b := 3000) HD.out.1 (Fr.refl _ _) (by omega) (by omega) ((j : Int) + 1) (t : Int) ⟨by omega, by omega⟩ ⟨by omega, by omega⟩ o.a o.xs.length o.cap o.xs rfl (by unfold maxLen; omega) (HO.out.2.step (HD.out.1).fr (by simp) (fun b h => .inl h.2.1)) HO.out.1 (by omega) (by omega)).mono ?_
            rw [putR_snoc HD.out.2.2.1 HD.out.2.2.2.1 (by omega) (by omega)]
            rintro e w5 ⟨rfl, D5, kp5⟩
            obtain ⟨q1, q2, q3⟩ := putE_len (t := (t : Int)) (l := o.xs) HD.out.2.2.1 HD.out.2.2.2.1
            have HD5 := Lib.hid (And.intro D5 (And.intro (HD.out.2.1.stays kp5 rfl) (And.intro q1 (And.intro q2 q3))))
            clear D5 kp5 q1 q2 q3
            dsimp only
            go_wp2_with fail
            go_roundw
            case rel => exact ⟨j + 1, t, _, _, by omega, by omega, by omega, by go_num, by go_num, HD5.out.1.more (by omega) (by omega), HD5.out.2.2.1, HD5.out.2.2.2.1, by rw [HD5.out.2.2.2.2]; exact HD.out.2.2.2.2, HD5.out.2.1⟩
            case measure => simp [intOf]; omega
          · by_cases hyb : (1000 : Int) ≤ y
            · go_wp2_with fail
              rw [← HA2.out]
              refine (Kd.put (b := 3000) HD.out.1 (Fr.refl _ _) (by omega) (by omega) ((j : Int) + 1) (t : Int) ⟨by omega, by omega⟩ ⟨by omega, by omega⟩ o.a o.xs.length o.cap o.xs rfl (by unfold maxLen; omega) (HO.out.2.step (HD.out.1).fr (by simp) (fun b h => .inl h.2.1)) HO.out.1 (by omega) (by omega)).mono ?_
              rw [putR_snoc HD.out.2.2.1 HD.out.2.2.2.1 (by omega) (by omega)]
              rintro e w5 ⟨rfl, D5, kp5⟩
              obtain ⟨q1, q2, q3⟩ := putE_len (t := (t : Int)) (l := o.xs) HD.out.2.2.1 HD.out.2.2.2.1
              have HD5 := Lib.hid (And.intro D5 (And.intro (HD.out.2.1.stays kp5 rfl) (And.intro q1 (And.intro q2 q3))))
              clear D5 kp5 q1 q2 q3
              dsimp only
              go_wp2_with fail
              go_roundw
              case rel => exact ⟨j + 1, t, _, _, by omega, by omega, by omega, by go_num, by go_num, HD5.out.1.more (by omega) (by omega), HD5.out.2.2.1, HD5.out.2.2.2.1, by rw [HD5.out.2.2.2.2]; exact HD.out.2.2.2.2, HD5.out.2.1⟩
              case measure => simp [intOf]; omega
            · go_upto_region 16 with fail
              have d1 : ∀ W, Fr [] wr W → W.cell? ⟨x, 1, none⟩ = some (.pointer (some ⟨K, 0, none⟩)) := fun W f => (HD.out.2.1.fr f (by simp)).cellAt rfl
              have d9 : ∀ W, Fr [] wr W → W.cell? ⟨b2, off2 + j, none⟩ = some (.int .i64 y) := fun W f => by
                have := rangeAt_fr HR2.out (HD.out.1.fr.trans0 f) (by simp) 0 _ rfl
                rwa [Nat.add_zero] at this
              clear c1 c9
              refine wp_region_ord (Fr [] wr) (List.range 9) [7] [7] [1, 6] mixed (by kernel_rfl) ?_
              have hS : Fr [] wr wr.drew := (Fr.refl _ _).drew
              simp only [pairs, pickN, List.range, List.range.loop]
              repeat (first | (refine wpO_free ?_ (by rfl) (by rfl) (fun w' => ?_) ?_; rotate_left; (go_simp; rfl); simp only [Act.put, List.setIfInBounds_toArray, List.set_cons_zero, List.set_cons_succ]) | (refine wpO_take ?_ hS (by rfl) (by rfl) (fun w' hw' => ?_) ?_; rotate_left; (go_simp; rfl); simp only [Act.put, List.setIfInBounds_toArray, List.set_cons_zero, List.set_cons_succ]) | (refine wpO_pass (by rfl) ?_; simp only [Act.put, List.setIfInBounds_toArray, List.set_cons_zero, List.set_cons_succ]))
              refine wpO_eff (by rfl) ?_
              refine wpList_callC rfl 9 #[.pointer (some ⟨K, 0, none⟩), .int .i64 ((t : Int) + 1), .int .i64 y] (by first | (go_simp; done) | (go_simp; rfl)) _ (Kd.vote HD.out.1 hS (by omega) (by omega) (by omega) ((t : Int) + 1) y ⟨by omega, by omega⟩ ⟨by omega, by omega⟩) ?_
              rw [voteE_ok (by have := HD.out.2.2.2.2; omega)]
              obtain ⟨k1, hk1, hq1, hq2, hq3⟩ : ∃ k1 : KP, ({ k with term := (t : Int) + 1, vote := y } : KP) = k1 ∧ k1.base = 0 ∧ k1.es.length = j ∧ k1.term = (t : Int) + 1 := ⟨_, rfl, HD.out.2.2.1, HD.out.2.2.2.1, rfl⟩
              have HQ := Lib.hid (And.intro hq1 (And.intro hq2 hq3))
              simp only [hk1]
              clear hk1 hq1 hq2 hq3
              rintro e v2 ⟨rfl, D2, kp2⟩
              refine ⟨_, rfl, effQ_skip (by decide) ?_⟩
              simp only [Act.put, List.setIfInBounds_toArray, List.set_cons_zero, List.set_cons_succ]
              repeat (first | (refine wpO_free ?_ (by rfl) (by rfl) (fun w' => ?_) ?_; rotate_left; (go_simp; rfl); simp only [Act.put, List.setIfInBounds_toArray, List.set_cons_zero, List.set_cons_succ]) | (refine wpO_pass (by rfl) ?_; simp only [Act.put, List.setIfInBounds_toArray, List.set_cons_zero, List.set_cons_succ]))
              refine wpO_nil ?_
              have HD2 := Lib.hid (And.intro D2 (And.intro ((HD.out.2.1.fr hS (by simp)).stays kp2 rfl) HD.out))
              have c1 : v2.cell? ⟨x, 1, none⟩ = some (.pointer (some ⟨K, 0, none⟩)) := HD2.out.2.1.cellAt rfl
              clear D2 kp2 d1 d9 hS
              go_wp2_with fail
              rw [← HA2.out]
              refine (Kd.put (b := 3000) HD2.out.1 (Fr.refl _ _) (by omega) (by omega) ((j : Int) + 1) ((t : Int) + 1) ⟨by omega, by omega⟩ ⟨by omega, by omega⟩ o.a o.xs.length o.cap o.xs rfl (by unfold maxLen; omega) (HO.out.2.step (HD2.out.1).fr (by simp) (fun b h => .inl h.2.1)) HO.out.1 (by omega) (by omega)).mono ?_
              rw [putR_snoc HQ.out.1 HQ.out.2.1 (by omega) (by omega)]
              rintro e w5 ⟨rfl, D5, kp5⟩
              obtain ⟨q1, q2, q3⟩ := putE_len (t := ((t : Int) + 1)) (l := o.xs) HQ.out.1 HQ.out.2.1
              have HD5 := Lib.hid (And.intro D5 (And.intro (HD2.out.2.1.stays kp5 rfl) (And.intro q1 (And.intro q2 q3))))
              clear D5 kp5 q1 q2 q3
              dsimp only
              go_wp2_with fail
              go_roundw
              case rel => exact ⟨j + 1, (t + 1), _, _, by omega, by omega, by omega, by go_num, by go_num, HD5.out.1.more (by omega) (by omega), HD5.out.2.2.1, HD5.out.2.2.2.1, by rw [HD5.out.2.2.2.2]; exact (HQ.out.2.2.trans (by omega)), HD5.out.2.1⟩
              case measure => simp [intOf]; omega
        · have i5 : ¬ (j : Int) < (vo.xs.length : Int) := by omega
          go_wp2_with fail
          skip
          refine (Kd.put (b := 3000) HD.out.1 (Fr.refl _ _) (by omega) (by omega) ((j : Int) + 1) (t : Int) ⟨by omega, by omega⟩ ⟨by omega, by omega⟩ o.a o.xs.length o.cap o.xs rfl (by unfold maxLen; omega) (HO.out.2.step (HD.out.1).fr (by simp) (fun b h => .inl h.2.1)) HO.out.1 (by omega) (by omega)).mono ?_
          rw [putR_snoc HD.out.2.2.1 HD.out.2.2.2.1 (by omega) (by omega)]
          rintro e w5 ⟨rfl, D5, kp5⟩
          obtain ⟨q1, q2, q3⟩ := putE_len (t := (t : Int)) (l := o.xs) HD.out.2.2.1 HD.out.2.2.2.1
          have HD5 := Lib.hid (And.intro D5 (And.intro (HD.out.2.1.stays kp5 rfl) (And.intro q1 (And.intro q2 q3))))
          clear D5 kp5 q1 q2 q3
          dsimp only
          go_wp2_with fail
          go_roundw
          case rel => exact ⟨j + 1, t, _, _, by omega, by omega, by omega, by go_num, by go_num, HD5.out.1.more (by omega) (by omega), HD5.out.2.2.1, HD5.out.2.2.2.1, by rw [HD5.out.2.2.2.2]; exact HD.out.2.2.2.2, HD5.out.2.1⟩
          case measure => simp [intOf]; omega
    · have i3 : ¬ (j : Int) < (ls.xs.length : Int) := by omega
      have c0 : wr.cell? ⟨x, 0, none⟩ = some (.pointer (some ⟨p, 0, none⟩)) := HD.out.2.1.cellAt rfl
      go_wp2_with fail
      have hkb := HD.out.1.small
      refine (Kd.now HD.out.1 (by omega)).mono ?_
      rintro e w6 ⟨cs, rfl, hR, F6⟩
      obtain ⟨sz, hsz⟩ : ∃ sz, wr.heap.size = sz := ⟨_, rfl⟩
      rw [hsz] at hR
      have HR := Lib.hid hR
      obtain ⟨vs, ve, rfl, hs, he⟩ := hR
      have ho1 := hs.one
      have ho2 := he.one
      have HF6 := Lib.hid F6
      have HWF := Lib.hid hkb.wf
      clear hs he F6 c1 c0 hkb
      dsimp only
      go_upto_region 22 with (first
        | (refine wpList_allocZ rfl 39 rfl zR rkeep_zero ?_; intro w7 B7 F7 S7; have HB7 := Lib.hid B7; have HF7 := Lib.hid F7; clear B7 F7 S7)
        | (refine wpList_storeB rfl 39 _ _ rfl w6.heap.size 0 (refC k vs ve) (by rfl) (by rfl) 39 _ HB7.out (by simp [refC, zR]) (by exact rkeep_size) (refC_one ho1 ho2) ?_; intro w8 B8 F8 S8; rw [splice_all _ _ (by rfl)] at B8; have HB8 := Lib.hid B8; have HF8 := Lib.hid F8; clear B8 F8 S8)
        | fail)
      have f68 : Fr [] w6 w8 := HF7.out.trans HF8.out (fun b hb hlt => by rw [List.mem_singleton.1 hb] at hlt; omega)
      have HF := Lib.hid (HF6.out.trans0 f68)
      have HR8 := Lib.hid (HR.out.fr0 f68)
      have hz6 := HF6.out.size
      have hy8 := HB8.out.lt
      obtain ⟨y, hy⟩ : ∃ y, w6.heap.size = y := ⟨_, rfl⟩
      rw [hy] at HB8 hz6 hy8 ⊢
      obtain ⟨Z, hZ⟩ : ∃ Z : Nat → Prop, (fun b => b = x ∨ (wr.heap.size ≤ b ∧ b < w8.heap.size)) = Z := ⟨_, rfl⟩
      have HZ := Lib.hid hZ
      have hZx : Z x := by rw [← hZ]; exact .inl rfl
      have hZy : Z y := by rw [← hZ]; exact .inr ⟨hz6, hy8⟩
      have hZn : ∀ b, ¬ Z b → b < sz ∨ w8.heap.size ≤ b := fun b hb => by
        rw [← hZ] at hb
        rw [← hsz]
        have h1 : ¬ (wr.heap.size ≤ b ∧ b < w8.heap.size) := fun h => hb (.inr h)
        omega
      have HD8 := Lib.hid (And.intro (show Kd W Z 65536 (3000 * j) (2 * j) p K k lst w8 from hZ ▸ HD.out.1.wide HF.out) (HD.out.2.1.fr HF.out (by simp)))
      have c1 : w8.cell? ⟨x, 1, none⟩ = some (.pointer (some ⟨K, 0, none⟩)) := HD8.out.2.cellAt rfl
      clear f68 hZ hy
      go_wp2_with fail
      refine (Kd.sync HD8.out.1 (Fr.refl _ _)).mono ?_
      rintro e w9 ⟨rfl, D9, kp9⟩
      have HD9 := Lib.hid (And.intro D9 kp9)
      have R2 := Lib.hid (show LmR W w9 Z p K ops.xs.length (3000 * j) (2 * j) k (.int .i64 (0 : Nat)) w9 from ⟨0, k, [k], Nat.zero_le _, Nat.zero_le _, rfl, D9, ⟨by omega, rfl⟩, fun a ha => by rw [List.mem_singleton.1 ha]; exact ⟨by omega, rfl⟩, Keeps.fr0 (Fr.refl _ _)⟩)
      clear D9 kp9 c1 R0
      dsimp only
      go_wp2_with fail
      go_loopw [105] (fun i wr => LmR W w9 Z p K ops.xs.length (3000 * j) (2 * j) k i wr) (fun i _ => ops.xs.length - (intOf i).toNat)
      case atStart => exact R2.out
      case round =>
        obtain ⟨i, k2, lst2, hi, hi4, rfl, hK2, hB2, hA2, hP2⟩ := hrel
        have HE := Lib.hid (And.intro hK2 (And.intro hB2 (And.intro hA2 ((Keeps.trans HD9.out.2 hP2)))))
        have HP := Lib.hid hP2
        clear hK2 hB2 hA2 hP2 R2
        by_cases hlt2 : i < ops.xs.length
        · obtain ⟨o, ho⟩ : ∃ o, ops.xs[i]? = some o := ⟨_, List.getElem?_eq_getElem hlt2⟩
          obtain ⟨b, off, ha, hr, hbl, hp, hi1, hi2, hi3, hi5⟩ := ops_at HO2.out i o ho
          obtain ⟨o1, o2, o3, o4, o5, o6⟩ := o
          simp only at hr hp hi1 hi2 hi3 hi5
          have hr2 := rangeAt_fr hr HE.out.1.fr (by simp)
          have i0 : (0 : Int) ≤ (i : Int) := by omega
          have i3 : (i : Int) < (ops.xs.length : Int) := by omega
          rw [ha]
          have HR2 := Lib.hid hr2
          have HI := Lib.hid (And.intro (int_i64 hi3) (int_i64 hi5))
          clear hr hr2 ha ho hp hi1 hi2 hi3 hi5
          have hxw : Blk wr x 30 [.pointer (some ⟨p, 0, none⟩), .pointer (some ⟨K, 0, none⟩), .slice (some ⟨g, 0, none⟩) 1 1] := HD8.out.2.stays HE.out.2.2.2 hZx
          have HXW := Lib.hid hxw
          clear hxw
          go_upto_region 27 with (first
            | refine wpList_load_mid rfl 44 _ rfl b (off + i * 5) rfl [.int .i64 o1, .int .i64 o2, .int .i64 o3, .int .i64 o4, o5.val] _ HR2.out Try.underlying44 rfl (by exact op_size) ?_
            | (refine wpList_allocZ rfl 44 rfl _ op_zero ?_; intro w3 B3 F3 S3)
            | (refine wpList_storeB rfl 44 _ _ rfl wr.heap.size 0 [.int .i64 o1, .int .i64 o2, .int .i64 o3, .int .i64 o4, o5.val] (by rfl) (by rfl) 44 _ B3 (by simp) (by exact op_size) (by simp [SlV.val, Value.oneCell']) ?_; intro w4 B4 F4 S4; rw [splice_all _ _ (by rfl)] at B4; have hG4 : Fr [] wr w4 := F3.trans F4 (fun x hx hlt => by simp at hx; omega); have HB4 := Lib.hid B4; have HG4 := Lib.hid hG4; clear B3 F3 S3 B4 F4 S4 hG4))
          have hx4 := HXW.out.fr HG4.out (by simp)
          have c1 : w4.cell? ⟨x, 1, none⟩ = some (.pointer (some ⟨K, 0, none⟩)) := hx4.cellAt rfl
          have x0 := HB4.out.cellAt (i := 0) rfl
          have x2 := HB4.out.cellAt (i := 2) rfl
          have x3 := HB4.out.cellAt (i := 3) rfl
          have HX4 := Lib.hid hx4
          clear hx4
          by_cases hk0 : o1 = 0
          · subst hk0
            go_wp2_with fail
            refine (Kd.vote HE.out.1 HG4.out (by omega) (by omega) (by omega) o3 o4 HI.out.1 HI.out.2).mono ?_
            rintro e w5 ⟨rfl, D5, kp5⟩
            obtain ⟨hb5, hl5⟩ := HE.out.2.1.vote HE.out.2.2.1 o3 o4
            have HREL := Lib.hid (show LmR W w9 Z p K ops.xs.length (3000 * j) (2 * j) k (.int .i64 ((i + 1 : Nat) : Int)) w5 from ⟨i + 1, _, _, hlt2, by omega, rfl, D5, hb5, hl5, (HP.out.trans (Keeps.fr0 HG4.out)).trans kp5⟩)
            clear D5 kp5 hb5 hl5 c1 x0 x2 x3
            dsimp only
            go_wp2_with fail
            go_roundw
            case rel =>
              have h9 := HREL.out
              rwa [show (((i + 1 : Nat) : Int)) = (i : Int) + 1 from by omega] at h9
            case measure => exact meas3 hlt2
          · have q0 : (o1 == 0) = false := by simpa using hk0
            go_wp2_with fail
            have HREL := Lib.hid (show LmR W w9 Z p K ops.xs.length (3000 * j) (2 * j) k (.int .i64 ((i + 1 : Nat) : Int)) w4 from ⟨i + 1, _, _, hlt2, by omega, rfl, (HE.out.1.fr0 HG4.out).more (Nat.le_refl _) (by omega), HE.out.2.1, HE.out.2.2.1, HP.out.trans (Keeps.fr0 HG4.out)⟩)
            go_roundw
            case rel =>
              have h9 := HREL.out
              rwa [show (((i + 1 : Nat) : Int)) = (i : Int) + 1 from by omega] at h9
            case measure => exact meas3 hlt2
        · have i3 : ¬ (i : Int) < (ops.xs.length : Int) := by omega
          have hxw : Blk wr x 30 [.pointer (some ⟨p, 0, none⟩), .pointer (some ⟨K, 0, none⟩), .slice (some ⟨g, 0, none⟩) 1 1] := HD8.out.2.stays HE.out.2.2.2 hZx
          have c0 : wr.cell? ⟨x, 0, none⟩ = some (.pointer (some ⟨p, 0, none⟩)) := hxw.cellAt rfl
          have HXW := Lib.hid hxw
          clear hxw
          go_wp2_with fail
          refine (Kd.crash HE.out.1 (Fr.refl _ _) (by omega) (by omega) kp h3).mono ?_
          rintro e w10 ⟨rfl, kp10, hop⟩
          have HOP := Lib.hid hop
          have hxw := HXW.out.stays kp10 hZx
          have HK10 := Lib.hid (HE.out.2.2.2.trans kp10)
          clear c0 kp10 hop
          have c0 : w10.cell? ⟨x, 0, none⟩ = some (.pointer (some ⟨p, 0, none⟩)) := hxw.cellAt rfl
          clear hxw
          dsimp only
          go_wp2_with fail
          refine (HOP.out w10 (Fr.refl _ _)).mono ?_
          rintro e w11 ⟨K2, k3, rfl, hm3, hK3, kp11⟩
          have hby := HE.out.2.2.1 k3 hm3
          have HBY := Lib.hid hby
          have HK3 := Lib.hid hK3
          have HK11 := Lib.hid (HK10.out.trans kp11)
          clear c0 hm3 hK3 kp11
          dsimp only
          go_wp2_with fail
          refine (Kd.now HK3.out (by omega)).mono ?_
          rintro e w12 ⟨cs2, rfl, hR2, F12⟩
          have HR2 := Lib.hid hR2
          obtain ⟨vs2, ve2, rfl, hs2, he2⟩ := hR2
          have hp1 := hs2.one
          have hp2 := he2.one
          have HF12 := Lib.hid F12
          clear hs2 he2 F12
          dsimp only
          go_upto_region 36 with (first
            | (refine wpList_allocZ rfl 39 rfl zR rkeep_zero ?_; intro w13 B13 F13 S13; have HB13 := Lib.hid B13; have HF13 := Lib.hid F13; clear B13 F13 S13)
            | (refine wpList_storeB rfl 39 _ _ rfl w12.heap.size 0 (refC k3 vs2 ve2) (by rfl) (by rfl) 39 _ HB13.out (by simp [refC, zR]) (by exact rkeep_size) (refC_one hp1 hp2) ?_; intro w14 B14 F14 S14; rw [splice_all _ _ (by rfl)] at B14; have HB14 := Lib.hid B14; have HF14 := Lib.hid F14; clear B14 F14 S14)
            | fail)
          have f1 : Fr [] w12 w14 := HF13.out.trans HF14.out (fun b hb hlt => by rw [List.mem_singleton.1 hb] at hlt; omega)
          have f2 : Fr [] w11 w14 := HF12.out.trans0 f1
          have hz12 := HF12.out.size
          have HF2 := Lib.hid f2
          have hz11 := HK11.out.size
          have HR14 := Lib.hid (HR2.out.fr0 f1)
          have HB8w := Lib.hid ((HB8.out.stays HK11.out hZy).fr f2 (by simp))
          have HRw := Lib.hid ((HR8.out.keeps HK11.out hZn).fr0 f2)
          obtain ⟨z, hz⟩ : ∃ z, w12.heap.size = z := ⟨_, rfl⟩
          have hyz : y ≠ z := by omega
          rw [hz] at HB14 ⊢
          have HZ2 := Lib.hid hz
          clear f1 f2 hz
          have x0 := HB14.out.cellAt (i := 0) rfl
          have y0 := HB8w.out.cellAt (i := 0) rfl
          have ht : ¬ k3.term < k.term := by have := HBY.out.1; omega
          go_upto_region 38 with fail
          clear x0 y0
          have d0 : ∀ W, Fr [z] w14 W → W.cell? ⟨y, 0, none⟩ = some (.int .i64 k.term) := fun W f => (HB8w.out.fr f (fun h => hyz (List.mem_singleton.1 h))).cellAt rfl
          have d1 : ∀ W, Fr [z] w14 W → W.cell? ⟨y, 1, none⟩ = some (.int .i64 k.vote) := fun W f => (HB8w.out.fr f (fun h => hyz (List.mem_singleton.1 h))).cellAt rfl
          refine wp_region_ord (Fr [z] w14) (List.range 8) [] [5, 7] [1, 3] mixed (by kernel_rfl) ?_
          have hS : Fr [z] w14 w14.drew := (Fr.refl _ _).drew
          simp only [pairs, pickN, List.range, List.range.loop]
          repeat (first | (refine wpO_free ?_ (by rfl) (by rfl) (fun w' => ?_) ?_; rotate_left; (go_simp; rfl); simp only [Act.put, List.setIfInBounds_toArray, List.set_cons_zero, List.set_cons_succ]) | (refine wpO_take ?_ hS (by rfl) (by rfl) (fun w' hw' => ?_) ?_; rotate_left; (go_simp; rfl); simp only [Act.put, List.setIfInBounds_toArray, List.set_cons_zero, List.set_cons_succ]) | (refine wpO_pass (by rfl) ?_; simp only [Act.put, List.setIfInBounds_toArray, List.set_cons_zero, List.set_cons_succ]))
          refine wpO_eff (by rfl) ?_
          refine wpList_store1 rfl 3 _ _ rfl z 0 (.int .i64 k.term) (by rfl) (by rfl) rfl 39 _ (HB14.out.fr ((Fr.refl [] w14).drew) (by simp)) (by simp [refC]) (by kernel_rfl) rfl ?_
          intro w15 B15 F15 S15
          have hS5 := hS.trans1 F15
          refine effQ_keep hS5 ?_
          simp only [Act.put, List.setIfInBounds_toArray, List.set_cons_zero, List.set_cons_succ]
          repeat (first | (refine wpO_free ?_ (by rfl) (by rfl) (fun w' => ?_) ?_; rotate_left; (go_simp; rfl); simp only [Act.put, List.setIfInBounds_toArray, List.set_cons_zero, List.set_cons_succ]) | (refine wpO_take ?_ hS (by rfl) (by rfl) (fun w' hw' => ?_) ?_; rotate_left; (go_simp; rfl); simp only [Act.put, List.setIfInBounds_toArray, List.set_cons_zero, List.set_cons_succ]) | (refine wpO_pass (by rfl) ?_; simp only [Act.put, List.setIfInBounds_toArray, List.set_cons_zero, List.set_cons_succ]))
          refine wpO_eff (by rfl) ?_
          refine wpList_store1 rfl 3 _ _ rfl z 1 (.int .i64 k.vote) (by rfl) (by rfl) rfl 39 _ B15 (by simp [refC]) (by kernel_rfl) rfl ?_
          intro w16 B16 F16 S16
          have hS6 := hS5.trans1 F16
          refine effQ_keep hS6 (wpO_nil ?_)
          simp only [Act.put, List.setIfInBounds_toArray, List.set_cons_zero, List.set_cons_succ]
          have hbb := HBY.out.2
          have hBm : Blk w16 z 39 (refC k vs2 ve2) := by
            have e1 := congrArg KP.base hbb
            have e2 := congrArg KP.bt hbb
            dsimp only at e1 e2
            have := B16
            simp only [refC, List.set_cons_zero, List.set_cons_succ, e1, e2] at this
            exact this
          have hG : Fr [z] w12 w16 := (HF13.out.trans HF14.out (fun b hb hlt => by rw [List.mem_singleton.1 hb] at hlt; omega)).ext.trans1 hS6
          have hG11 : Fr [z] w11 w16 := HF12.out.ext.trans1 hG
          have hzb : ∀ b ∈ [z], w12.heap.size ≤ b := fun b hb => by rw [List.mem_singleton.1 hb, HZ2.out]; exact Nat.le_refl _
          have HRm := Lib.hid ((HR2.out.step hG (fun b hb => .inr (hzb b hb)) (X' := fun b => b < w11.heap.size) (fun b hb => .inl hb)).bys HBY.out)
          have HRk := Lib.hid ((HR8.out.keeps HK11.out hZn).step hG11 (fun b hb => .inr (by have := hzb b hb; omega)) (X' := fun b => b < sz) (fun b hb => .inl hb))
          have hYk := (HB8.out.stays HK11.out hZy).fr hG11 (fun h => hyz (List.mem_singleton.1 h))
          have HW16 := Lib.hid (HK3.out.fr.trans hG11 (fun b hb hlt => by have := hzb b hb; have := HK3.out.fr.size; omega))
          have x0 := hBm.cellAt (i := 0) rfl
          have x1 := hBm.cellAt (i := 1) rfl
          have x2 := hBm.cellAt (i := 2) rfl
          have x3 := hBm.cellAt (i := 3) rfl
          have x4 := hBm.cellAt (i := 4) rfl
          have x5 := hBm.cellAt (i := 5) rfl
          have y0 := hYk.cellAt (i := 0) rfl
          have y1 := hYk.cellAt (i := 1) rfl
          have y2 := hYk.cellAt (i := 2) rfl
          have y3 := hYk.cellAt (i := 3) rfl
          have y4 := hYk.cellAt (i := 4) rfl
          have y5 := hYk.cellAt (i := 5) rfl
          clear hbb hBm hG hG11 hzb hYk B15 B16 F15 F16 hS hS5 hS6 d0 d1 S15 S16
          go_wp2_with fail
          refine (rsame_calls HRm.out HRk.out HWF.out HWF.out).mono ?_
          rintro e w17 ⟨rfl, f17⟩
          have HW17 := Lib.hid (HW16.out.trans0 f17)
          rw [show decide (k = k) = true from by simp]
          clear x0 x1 x2 x3 x4 x5 y0 y1 y2 y3 y4 y5 f17
          dsimp only
          go_wp2_with fail
          go_ret
          exact ⟨rfl, HW17.out.below (Nat.le_refl _) (by simp)⟩
end Go.Fur
