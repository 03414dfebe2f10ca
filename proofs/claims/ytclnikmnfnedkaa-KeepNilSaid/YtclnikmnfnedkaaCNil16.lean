/- KeepNil: the walk. -/
import Derived.Test.YtclnikmnfnedkaaCCuts16
namespace Go.Fur
open Go Go.RowKit Go.Proofs
set_option linter.unusedVariables false
set_option linter.unusedSimpArgs false
set_option maxRecDepth 100000 in
theorem kopenN_calls (w : World) : Calls Try.prog 14 #[.pointer none] w fun e w' => e = .returned (.tuple #[.pointer none, .int .i64 17]) ∧ Fr [] w w' := by
  go_enter Try.func14, Try.ntmps14
  go_wp2_with fail
  refine (openN_calls w).mono ?_
  rintro e w1 ⟨rfl, F1⟩
  have HF1 := Lib.hid F1
  clear F1
  dsimp only
  go_wp2_with (first
    | (refine wpList_allocZ rfl 85 rfl _ found_zero ?_; intro w3 B3 F3 S3)
    | (refine wpList_storeB rfl 85 _ _ rfl w1.heap.size 0 [.bool false, .slice none 0 0, .slice none 0 0] (by rfl) (by rfl) 85 _ B3 (by simp) found_size (by simp [Value.oneCell']) ?_; intro w4 B4 F4 S4; have hG4 := Lib.hid (HF1.out.trans0 (F3.trans F4 (fun x hx hlt => by simp at hx; omega))); clear B3 F3 S3 B4 F4 S4))
  go_ret2
  exact ⟨rfl, hG4.out⟩
theorem Own.keeps {Z : Nat → Prop} {w w' : World} {base : Nat} {e : TypeId} {size n : Nat} {v : Value} {cs : List Value} (h : Own w base e size v n cs) (f : Keeps Z w w') (hb : ∀ g ∈ ob v, Z g) : Own w' base e size v n cs := by
  obtain ⟨S, f, hS⟩ := f
  exact h.fr f (fun g hg hm => hS g hm (hb g hg))
/-- What is kept behind two entries and a snapshot. -/
def kNil (l : List Int) : KP := ⟨0, -1, 1, 0, l, [(0, l)]⟩
theorem nil_p1 {l : List Int} (hl : l.length ≤ 1000) : putR KP.new 1 0 l = (0, { KP.new with es := [(0, l)] }) := by
  rw [putR_ok (by simp [KP.new, KP.last]; omega)]
  rfl
theorem nil_p2 {l : List Int} (hl : l.length ≤ 1000) : putR { KP.new with es := [(0, l)] } 2 0 l = (0, { KP.new with es := [(0, l), (0, l)] }) := by
  rw [putR_ok (by simp [KP.new, KP.last]; omega)]
  rfl
theorem nil_r {l : List Int} (hl : l.length ≤ 1000) : resetR { KP.new with es := [(0, l), (0, l)] } 1 0 l = (0, kNil l) := by
  rw [resetR_ok (by simp [KP.new]) (by omega)]
  rfl
theorem nil_e (l : List Int) : (kNil l).entry 2 = (0, l, 0) := by
  rfl
/-- Between the rounds that turn the bytes of v. -/
def NkR (W : World) (Z : Nat → Prop) (p K x g : Nat) (k : KP) (lst : List KP) (base n : Nat) (v : Value) (R : World → Prop) (i : Value) (wr : World) : Prop :=
  ∃ (j : Nat) (l' : List Int), j ≤ n ∧ i = .int .i64 j ∧ Own wr base 5 1 v n (bv l') ∧ Kd W Z 65536 3000 3 p K k lst wr ∧ Blk wr x 30 [.pointer (some ⟨p, 0, none⟩), .pointer (some ⟨K, 0, none⟩), .slice (some ⟨g, 0, none⟩) 1 1] ∧ R wr
set_option maxRecDepth 100000 in
set_option maxHeartbeats 8000000 in
theorem KeepNil_walk (W : World) (index : Int) (hindex : rInt.ok W index) (term : Int) (hterm : rInt.ok W term) (xs : SlV Int) (hx : rBytes.ok W xs) :
    Calls Try.prog 6 #[.int .i64 index, .int .i64 term, xs.val] W fun e w' => e = .returned (.bool true) ∧ Below W.heap.size W w' := by
  simp only [SlV.val]
  obtain ⟨pbt, pr, ple, pcap⟩ := bytes_ok hx
  have HX := Lib.hid (And.intro pbt pr.own)
  clear hx pbt pr hindex hterm
  go_enter Try.func6, Try.ntmps6
  go_wp2_with fail
  refine (awake_calls W).mono ?_
  rintro e w1 ⟨rfl, F1⟩
  have HF1 := Lib.hid F1
  clear F1
  dsimp only
  go_wp2_with fail
  refine (kopenN_calls w1).mono ?_
  rintro e w2 ⟨rfl, F2⟩
  have HF2 := Lib.hid (HF1.out.trans0 F2)
  clear F2 HF1
  dsimp only
  go_wp2_with fail
  refine (kbase_nil w2).mono ?_
  rintro e w3 ⟨rfl, rfl⟩
  dsimp only
  go_wp2_with fail
  refine (kentry_nil w2 _).mono ?_
  rintro e w3 ⟨rfl, rfl⟩
  dsimp only
  go_wp2_with fail
  refine (kvote_nil w2 _ _).mono ?_
  rintro e w3 ⟨rfl, rfl⟩
  dsimp only
  go_wp2_with fail
  refine (kput_nil w2 _ _ _).mono ?_
  rintro e w3 ⟨rfl, rfl⟩
  dsimp only
  go_wp2_with fail
  refine (kreset_nil w2 _ _ _).mono ?_
  rintro e w3 ⟨rfl, rfl⟩
  dsimp only
  go_wp2_with fail
  refine (ksync_nil w2).mono ?_
  rintro e w3 ⟨rfl, rfl⟩
  dsimp only
  go_wp2_with fail
  refine (kterm_nil w2).mono ?_
  rintro e w3 ⟨rfl, rfl⟩
  dsimp only
  go_wp2_with fail
  refine (kvoted_nil w2).mono ?_
  rintro e w3 ⟨rfl, rfl⟩
  dsimp only
  go_wp2_with fail
  refine (klast_nil w2).mono ?_
  rintro e w3 ⟨rfl, rfl⟩
  dsimp only
  by_cases hbig : (1000 : Int) < (xs.xs.length : Int)
  · go_wp2_with fail
    go_ret
    exact ⟨rfl, HF2.out.below (Nat.le_refl _) (by simp)⟩
  go_wp2_with fail
  refine (begin_calls w2).mono ?_
  rintro e w3 ⟨p, K, g, M, rfl, hO, _, _, _⟩
  have HK3 := Lib.hid ((Kd.new hO).base HF2.out)
  clear hO
  have hd3 : ∀ v ∈ [Value.pointer (some ⟨p, 0, none⟩), .pointer (some ⟨K, 0, none⟩), .slice (some ⟨g, 0, none⟩) 1 1], v.oneCell' = true := by simp [Value.oneCell']
  dsimp only
  go_upto_region 12 with (first
    | (refine wpList_allocZ rfl 30 rfl _ desk_zero ?_; intro w4 B4 F4 S4)
    | (refine wpList_storeB rfl 30 _ _ rfl w3.heap.size 0 [.pointer (some ⟨p, 0, none⟩), .pointer (some ⟨K, 0, none⟩), .slice (some ⟨g, 0, none⟩) 1 1] (by rfl) (by rfl) 30 _ B4 (by simp [zD]) desk_size hd3 ?_; intro w5 B5 F5 S5; rw [splice_all _ _ (by rfl)] at B5; have hF35 : Fr [] w3 w5 := F4.trans F5 (fun x hx hlt => by simp at hx; omega); have HK5 := Lib.hid (And.intro ((HK3.out.wide hF35).less (Z' := fun b => b = w3.heap.size) (fun b hb => .inr (by have := B5.lt; omega))) B5); clear B4 F4 S4 B5 F5 S5 hF35))
  obtain ⟨x, hx⟩ : ∃ x, w3.heap.size = x := ⟨_, rfl⟩
  rw [hx] at HK5 ⊢
  clear hx hd3
  go_wp2_with fail
  refine (twin_calls w5 xs.a xs.cap xs.xs.length xs.xs rfl (by omega) (HX.out.2.rd.fr0 HK5.out.1.fr)).mono ?_
  rintro e w6 ⟨v6, rfl, O6, F6⟩
  obtain ⟨qa, qc, rfl, hq1, hq2, hq3⟩ := O6.form
  obtain ⟨Z, hZ⟩ : ∃ Z : Nat → Prop, (fun b => b = x ∨ (w5.heap.size ≤ b ∧ b < w6.heap.size)) = Z := ⟨_, rfl⟩
  have hZx : Z x := by rw [← hZ]; exact .inl rfl
  have hWz := HK5.out.1.fr.size
  have hZq : ∀ b ∈ ob (.slice qa xs.xs.length qc), Z b ∧ W.heap.size ≤ b := fun b hb => by
    rw [← hZ]
    have := O6.lt hb
    exact ⟨.inr ⟨by omega, by omega⟩, by omega⟩
  have HZQ := Lib.hid hZq
  have HK6 := Lib.hid (And.intro (show Kd W Z 65536 0 0 p K KP.new [KP.new] w6 from hZ ▸ HK5.out.1.wide F6) (HK5.out.2.fr F6 (by simp)))
  have HO6 := Lib.hid O6
  have c1 : w6.cell? ⟨x, 1, none⟩ = some (.pointer (some ⟨K, 0, none⟩)) := HK6.out.2.cellAt rfl
  have hl : xs.xs.length ≤ 1000 := by omega
  clear O6 F6 hq3 hZ hZq
  dsimp only
  go_wp2_with fail
  refine (Kd.put (b := 1000) HK6.out.1 (Fr.refl _ _) (by omega) (by omega) 1 0 ⟨by omega, by omega⟩ ⟨by omega, by omega⟩ qa xs.xs.length qc xs.xs rfl (by unfold maxLen; omega) (HO6.out.rdS (fun b hb hn => hn.1 (HZQ.out b hb).1)).1 HX.out.1 (by omega) (by omega)).mono ?_
  rw [nil_p1 hl]
  rintro e w7 ⟨rfl, D7, kp7⟩
  have HD7 := Lib.hid (And.intro D7 (And.intro (HK6.out.2.stays kp7 hZx) (HO6.out.keeps kp7 (fun b hb => (HZQ.out b hb).1))))
  clear D7 kp7 c1
  have c1 : w7.cell? ⟨x, 1, none⟩ = some (.pointer (some ⟨K, 0, none⟩)) := HD7.out.2.1.cellAt rfl
  dsimp only
  go_wp2_with fail
  refine (Kd.put (b := 1000) HD7.out.1 (Fr.refl _ _) (by omega) (by omega) 2 0 ⟨by omega, by omega⟩ ⟨by omega, by omega⟩ qa xs.xs.length qc xs.xs rfl (by unfold maxLen; omega) (HD7.out.2.2.rdS (fun b hb hn => hn.1 (HZQ.out b hb).1)).1 HX.out.1 (by omega) (by omega)).mono ?_
  rw [nil_p2 hl]
  rintro e w8 ⟨rfl, D8, kp8⟩
  have HD8 := Lib.hid (And.intro D8 (And.intro (HD7.out.2.1.stays kp8 hZx) (HD7.out.2.2.keeps kp8 (fun b hb => (HZQ.out b hb).1))))
  clear D8 kp8 c1
  have c1 : w8.cell? ⟨x, 1, none⟩ = some (.pointer (some ⟨K, 0, none⟩)) := HD8.out.2.1.cellAt rfl
  dsimp only
  go_wp2_with fail
  refine (Kd.reset (b := 1000) HD8.out.1 (Fr.refl _ _) (by omega) 1 0 ⟨by omega, by omega⟩ ⟨by omega, by omega⟩ qa xs.xs.length qc xs.xs rfl (by omega) (HD8.out.2.2.rdS (fun b hb hn => hn.1 (HZQ.out b hb).1)).1 HX.out.1 (by omega) (by omega) (by omega)).mono ?_
  rw [nil_r hl]
  rintro e w9 ⟨rfl, D9, kp9⟩
  have HD9 := Lib.hid (And.intro (show Kd W Z 65536 3000 3 p K (kNil xs.xs) [kNil xs.xs] w9 from D9) (And.intro (HD8.out.2.1.stays kp9 hZx) (HD8.out.2.2.keeps kp9 (fun b hb => (HZQ.out b hb).1))))
  clear D9 kp9 c1
  dsimp only
  go_wp2_with fail
  go_loopw [147] (fun i wr => NkR W Z p K x g (kNil xs.xs) [kNil xs.xs] w5.heap.size xs.xs.length (.slice qa xs.xs.length qc) (fun _ => True) i wr) (fun i _ => xs.xs.length - (intOf i).toNat)
  case atStart => exact ⟨0, _, Nat.zero_le _, rfl, HD9.out.2.2, HD9.out.1, HD9.out.2.1, trivial⟩
  case round =>
    obtain ⟨j, l', hj, rfl, hO, hKd, hX, hRR⟩ := hrel
    have HD := Lib.hid (And.intro hKd (And.intro hX hRR))
    by_cases hlt : j < xs.xs.length
    · obtain ⟨g1, cap1, cur1, x1, hv1, hg1, hb1', hn1, hx1, hc1, hst1⟩ := hO.byteAt j hlt
      simp only [Value.slice.injEq] at hv1
      obtain ⟨ha1, _, hc1'⟩ := hv1
      have i0 : (0 : Int) ≤ (j : Int) := by omega
      have i1 : (j : Int) < (xs.xs.length : Int) := by omega
      have HA1 := Lib.hid ha1
      have HB1 := Lib.hid hb1'
      have HST := Lib.hid hst1
      have HN1 := Lib.hid hn1
      clear hO hb1' hst1 hn1 hc1' ha1 hx1 hKd hX hRR
      rw [HA1.out]
      go_wp2_with (refine wpList_store1 rfl 5 _ _ rfl g1 j _ (by rfl) (by rfl) rfl 5 cur1 HB1.out (by have := HN1.out; omega) (by kernel_rfl) rfl ?_; intro w30 B30 F30 S30)
      have hg1 : g1 ∈ ob (.slice qa xs.xs.length qc) := by rw [HA1.out]; simp
      have R7 : NkR W Z p K x g (kNil xs.xs) [kNil xs.xs] w5.heap.size xs.xs.length (.slice qa xs.xs.length qc) (fun _ => True) (.int .i64 (j + 1 : Nat)) w30 := by
        refine ⟨j + 1, _, by omega, rfl, HST.out w30 _ B30, HD.out.1.turned F30 (fun k hk => by rw [List.mem_singleton.1 hk]; exact HZQ.out g1 hg1), HD.out.2.1.fr F30 (fun hm => HD.out.2.1.ne HB1.out (by decide) (List.mem_singleton.1 hm)), ?_⟩
        trivial
      rw [HA1.out] at R7
      have HR7 := Lib.hid R7
      clear R7 B30 F30 S30 hg1
      go_roundw
      case rel => exact HR7.out
      case measure => simp [intOf]; omega
    ·
      have i1 : ¬ (j : Int) < (xs.xs.length : Int) := by omega
      have c1 : wr.cell? ⟨x, 1, none⟩ = some (.pointer (some ⟨K, 0, none⟩)) := hX.cellAt rfl
      obtain ⟨Y, q, vs, ve, hrd⟩ := hKd.rd
      have HRD := Lib.hid hrd
      clear hO hKd hX hRR hrd
      go_wp2_with fail
      refine (kentry_calls HRD.out 2 ⟨by decide, by decide⟩).mono ?_
      rw [nil_e]
      rintro e w10 ⟨vg, rfl, Og, Fg⟩
      dsimp only at Og
      obtain ⟨ga, gc, rfl, _, _, _⟩ := Og.form
      have hXg := HD.out.2.1.fr Fg (by simp)
      have c1 : w10.cell? ⟨x, 1, none⟩ = some (.pointer (some ⟨K, 0, none⟩)) := hXg.cellAt rfl
      have HRD10 := Lib.hid (HRD.out.fr0 Fg)
      dsimp only
      go_wp2_with fail
      refine (kbase_calls HRD10.out).mono ?_
      rintro e w11 ⟨vt, rfl, Ot, Ft⟩
      have Ot' : Own w11 w10.heap.size 5 1 vt xs.xs.length (bv xs.xs) := Ot
      obtain ⟨sa, sc, rfl, _, _, _⟩ := Ot'.form
      obtain ⟨b1, hb1⟩ : ∃ b1, wr.heap.size = b1 := ⟨_, rfl⟩
      obtain ⟨Z2, hZ2⟩ : ∃ Z2 : Nat → Prop, (fun b => (Z b ∨ (wr.heap.size ≤ b ∧ b < w10.heap.size)) ∨ (w10.heap.size ≤ b ∧ b < w11.heap.size)) = Z2 := ⟨_, rfl⟩
      have hW1 := HD.out.1.fr.size
      have hz1 := Fg.size
      have hZg : ∀ b ∈ ob (.slice ga xs.xs.length gc), Z2 b ∧ W.heap.size ≤ b := fun b hb => by
        rw [← hZ2]
        have := Og.lt hb
        exact ⟨.inl (.inr ⟨by omega, by omega⟩), by omega⟩
      have hZs : ∀ b ∈ ob (.slice sa xs.xs.length sc), Z2 b ∧ W.heap.size ≤ b := fun b hb => by
        rw [← hZ2]
        have := Ot'.lt hb
        exact ⟨.inr ⟨by omega, by omega⟩, by omega⟩
      have hdis : ∀ b ∈ ob (.slice sa xs.xs.length sc), ∀ b' ∈ ob (.slice ga xs.xs.length gc), b ≠ b' := fun b hb b' hb' e => by
        have := (Ot'.lt hb).1
        have := (Og.lt hb').2
        omega
      have HZG := Lib.hid hZg
      have HZS := Lib.hid hZs
      have HDIS := Lib.hid hdis
      have HK11 := Lib.hid (And.intro (show Kd W Z2 65536 3000 3 p K (kNil xs.xs) [kNil xs.xs] w11 from hZ2 ▸ (HD.out.1.wide Fg).wide Ft) (And.intro (hXg.fr Ft (by simp)) (And.intro (hb1 ▸ Og.fr0 Ft : Own w11 b1 5 1 (.slice ga xs.xs.length gc) xs.xs.length (bv xs.xs)) Ot')))
      obtain ⟨b2, hb2⟩ : ∃ b2, w10.heap.size = b2 := ⟨_, rfl⟩
      rw [hb2] at HK11
      clear Og Ot Ot' Fg Ft hXg c1 hZg hZs hdis hZ2 hb1 hb2
      dsimp only
      go_wp2_with fail
      go_loopw [173] (fun i wr => NkR W Z2 p K x g (kNil xs.xs) [kNil xs.xs] b1 xs.xs.length (.slice ga xs.xs.length gc) (fun w => Own w b2 5 1 (.slice sa xs.xs.length sc) xs.xs.length (bv xs.xs)) i wr) (fun i _ => xs.xs.length - (intOf i).toNat)
      case atStart => exact ⟨0, _, Nat.zero_le _, rfl, HK11.out.2.2.1, HK11.out.1, HK11.out.2.1, HK11.out.2.2.2⟩
      case round =>
        obtain ⟨j, l', hj, rfl, hO, hKd, hX, hRR⟩ := hrel
        have HD := Lib.hid (And.intro hKd (And.intro hX hRR))
        by_cases hlt : j < xs.xs.length
        · obtain ⟨g1, cap1, cur1, x1, hv1, hg1, hb1', hn1, hx1, hc1, hst1⟩ := hO.byteAt j hlt
          simp only [Value.slice.injEq] at hv1
          obtain ⟨ha1, _, hc1'⟩ := hv1
          have i0 : (0 : Int) ≤ (j : Int) := by omega
          have i1 : (j : Int) < (xs.xs.length : Int) := by omega
          have HA1 := Lib.hid ha1
          have HB1 := Lib.hid hb1'
          have HST := Lib.hid hst1
          have HN1 := Lib.hid hn1
          clear hO hb1' hst1 hn1 hc1' ha1 hx1 hKd hX hRR
          rw [HA1.out]
          go_wp2_with (refine wpList_store1 rfl 5 _ _ rfl g1 j _ (by rfl) (by rfl) rfl 5 cur1 HB1.out (by have := HN1.out; omega) (by kernel_rfl) rfl ?_; intro w30 B30 F30 S30)
          have hg1 : g1 ∈ ob (.slice ga xs.xs.length gc) := by rw [HA1.out]; simp
          have R7 : NkR W Z2 p K x g (kNil xs.xs) [kNil xs.xs] b1 xs.xs.length (.slice ga xs.xs.length gc) (fun w => Own w b2 5 1 (.slice sa xs.xs.length sc) xs.xs.length (bv xs.xs)) (.int .i64 (j + 1 : Nat)) w30 := by
            refine ⟨j + 1, _, by omega, rfl, HST.out w30 _ B30, HD.out.1.turned F30 (fun k hk => by rw [List.mem_singleton.1 hk]; exact HZG.out g1 hg1), HD.out.2.1.fr F30 (fun hm => HD.out.2.1.ne HB1.out (by decide) (List.mem_singleton.1 hm)), ?_⟩
            exact HD.out.2.2.fr F30 (fun b hb hm => HDIS.out b hb g1 hg1 (List.mem_singleton.1 hm))
          rw [HA1.out] at R7
          have HR7 := Lib.hid R7
          clear R7 B30 F30 S30 hg1
          go_roundw
          case rel => exact HR7.out
          case measure => simp [intOf]; omega
        ·
          have i1 : ¬ (j : Int) < (xs.xs.length : Int) := by omega
          clear hO hKd hX hRR
          go_wp2_with fail
          go_loopw [185] (fun i wr => NkR W Z2 p K x g (kNil xs.xs) [kNil xs.xs] b2 xs.xs.length (.slice sa xs.xs.length sc) (fun _ => True) i wr) (fun i _ => xs.xs.length - (intOf i).toNat)
          case atStart => exact ⟨0, _, Nat.zero_le _, rfl, HD.out.2.2, HD.out.1, HD.out.2.1, trivial⟩
          case round =>
            obtain ⟨j, l', hj, rfl, hO, hKd, hX, hRR⟩ := hrel
            have HD := Lib.hid (And.intro hKd (And.intro hX hRR))
            by_cases hlt : j < xs.xs.length
            · obtain ⟨g1, cap1, cur1, x1, hv1, hg1, hb1', hn1, hx1, hc1, hst1⟩ := hO.byteAt j hlt
              simp only [Value.slice.injEq] at hv1
              obtain ⟨ha1, _, hc1'⟩ := hv1
              have i0 : (0 : Int) ≤ (j : Int) := by omega
              have i1 : (j : Int) < (xs.xs.length : Int) := by omega
              have HA1 := Lib.hid ha1
              have HB1 := Lib.hid hb1'
              have HST := Lib.hid hst1
              have HN1 := Lib.hid hn1
              clear hO hb1' hst1 hn1 hc1' ha1 hx1 hKd hX hRR
              rw [HA1.out]
              go_wp2_with (refine wpList_store1 rfl 5 _ _ rfl g1 j _ (by rfl) (by rfl) rfl 5 cur1 HB1.out (by have := HN1.out; omega) (by kernel_rfl) rfl ?_; intro w30 B30 F30 S30)
              have hg1 : g1 ∈ ob (.slice sa xs.xs.length sc) := by rw [HA1.out]; simp
              have R7 : NkR W Z2 p K x g (kNil xs.xs) [kNil xs.xs] b2 xs.xs.length (.slice sa xs.xs.length sc) (fun _ => True) (.int .i64 (j + 1 : Nat)) w30 := by
                refine ⟨j + 1, _, by omega, rfl, HST.out w30 _ B30, HD.out.1.turned F30 (fun k hk => by rw [List.mem_singleton.1 hk]; exact HZS.out g1 hg1), HD.out.2.1.fr F30 (fun hm => HD.out.2.1.ne HB1.out (by decide) (List.mem_singleton.1 hm)), ?_⟩
                trivial
              rw [HA1.out] at R7
              have HR7 := Lib.hid R7
              clear R7 B30 F30 S30 hg1
              go_roundw
              case rel => exact HR7.out
              case measure => simp [intOf]; omega
            ·
              have i1 : ¬ (j : Int) < (xs.xs.length : Int) := by omega
              have c1 : wr.cell? ⟨x, 1, none⟩ = some (.pointer (some ⟨K, 0, none⟩)) := hX.cellAt rfl
              obtain ⟨Y, q, vs, ve, hrd⟩ := hKd.rd
              have HRD := Lib.hid hrd
              clear hO hKd hX hRR hrd
              go_wp2_with fail
              refine (kentry_calls HRD.out 2 ⟨by decide, by decide⟩).mono ?_
              rw [nil_e]
              rintro e w20 ⟨vh, rfl, Oh, Fh⟩
              dsimp only at Oh
              obtain ⟨ha, hc, rfl, _, _, _⟩ := Oh.form
              have c1 : w20.cell? ⟨x, 1, none⟩ = some (.pointer (some ⟨K, 0, none⟩)) := (HD.out.2.1.fr Fh (by simp)).cellAt rfl
              have HRD20 := Lib.hid (HRD.out.fr0 Fh)
              have HOh := Lib.hid (And.intro Oh Fh)
              clear Oh Fh
              dsimp only
              go_wp2_with fail
              refine (kbase_calls HRD20.out).mono ?_
              rintro e w21 ⟨vt2, rfl, Ot2, Ft2⟩
              have Ot' : Own w21 w20.heap.size 5 1 vt2 xs.xs.length (bv xs.xs) := Ot2
              obtain ⟨ta, tc, rfl, _, _, _⟩ := Ot'.form
              have HOt := Lib.hid (And.intro Ot' Ft2)
              have HW21 := Lib.hid ((HD.out.1.fr.trans0 HOh.out.2).trans0 Ft2)
              clear Ot2 Ot' Ft2 c1
              dsimp only
              go_wp2_with fail
              refine (bytes_calls w21 ha xs.a hc xs.cap xs.xs.length xs.xs.length xs.xs xs.xs rfl rfl HX.out.1 HX.out.1 (((HOh.out.1.fr0 HOt.out.2).rdS (X := fun _ => False) (fun _ _ h => h)).1.rd) (HX.out.2.rd.fr0 HW21.out)).mono ?_
              rintro e w22 ⟨rfl, rfl⟩
              rw [show decide (xs.xs = xs.xs) = true from by simp]
              dsimp only
              go_wp2_with fail
              refine (bytes_calls w21 ta xs.a tc xs.cap xs.xs.length xs.xs.length xs.xs xs.xs rfl rfl HX.out.1 HX.out.1 ((HOt.out.1.rdS (X := fun _ => False) (fun _ _ h => h)).1.rd) (HX.out.2.rd.fr0 HW21.out)).mono ?_
              rintro e w22 ⟨rfl, rfl⟩
              rw [show decide (xs.xs = xs.xs) = true from by simp]
              dsimp only
              go_wp2_with fail
              go_ret
              exact ⟨rfl, HW21.out.below (Nat.le_refl _) (by simp)⟩
end Go.Fur
