/- KeepCuts: the walk. -/
import Derived.Test.YtclnikmnfnedkaaCLasts16
namespace Go.Fur
open Go Go.RowKit Go.Proofs
set_option linter.unusedVariables false
set_option linter.unusedSimpArgs false
/-- What a reset leaves behind an entry that was put in the place of another one. -/
theorem cuts_plain {k : KP} {n a u : Nat} {term : Int} (h0 : k.base = 0) (hl : k.es.length = n) (h3 : ∀ e ∈ k.es, e.1 = 3) (ha : 1 ≤ a) (han : a ≤ n) (hu : 1 ≤ u) (hua : u ≤ a) :
    (term = (if u = a then 5 else 3) → (resetE (putE k a 5 [9]) u term [8]).es.length = a - u) ∧ (¬ term = (if u = a then 5 else 3) → (resetE (putE k a 5 [9]) u term [8]).es.length = 0) ∧ (0 < (resetE (putE k a 5 [9]) u term [8]).es.length → (resetE (putE k a 5 [9]) u term [8]).es[(resetE (putE k a 5 [9]) u term [8]).es.length - 1]? = some (5, [9])) := by
  have e2 : (putE k a 5 [9]).es = k.es.take (a - 1) ++ [(5, [9])] := by
    show k.es.take ((a : Int) - k.base - 1).toNat ++ [(5, [9])] = _
    rw [h0, show ((a : Int) - 0 - 1).toNat = a - 1 by omega]
  have el : (k.es.take (a - 1)).length = a - 1 := by rw [List.length_take]; omega
  have ln : (putE k a 5 [9]).es.length = a := by rw [e2, List.length_append, el, List.length_singleton]; omega
  have hb : (putE k a 5 [9]).base = 0 := h0
  have hla : (putE k a 5 [9]).last = a := by show (putE k a 5 [9]).base + ((putE k a 5 [9]).es.length : Int) = a; rw [hb, ln]; omega
  have hg : ((putE k a 5 [9]).es.getD ((u : Int) - (putE k a 5 [9]).base - 1).toNat (0, [])).1 = if u = a then 5 else 3 := by
    rw [hb, show ((u : Int) - 0 - 1).toNat = u - 1 by omega, e2, List.getD_eq_getElem?_getD]
    by_cases h : u = a
    · rw [if_pos h, List.getElem?_append_right (by omega), el, show u - 1 - (a - 1) = 0 by omega]
      rfl
    · rw [if_neg h, List.getElem?_append_left (by omega), List.getElem?_eq_getElem (by omega)]
      exact h3 _ (List.mem_of_mem_take (List.getElem_mem _))
  have hk : keepsE (putE k a 5 [9]) u term ↔ term = if u = a then 5 else 3 := by
    unfold keepsE
    rw [hg, hla]
    constructor
    · intro h
      exact h.2.symm
    · intro h
      exact ⟨by omega, h.symm⟩
  have es : (resetE (putE k a 5 [9]) u term [8]).es = if keepsE (putE k a 5 [9]) u term then (putE k a 5 [9]).es.drop u else [] := by
    show (if keepsE (putE k a 5 [9]) u term then (putE k a 5 [9]).es.drop ((u : Int) - (putE k a 5 [9]).base).toNat else []) = _
    rw [hb, show ((u : Int) - 0).toNat = u by omega]
  refine ⟨fun h => ?_, fun h => ?_, fun h => ?_⟩
  · rw [es, if_pos (hk.2 h), List.length_drop, ln]
  · rw [es, if_neg (fun hh => h (hk.1 hh))]
    rfl
  · rw [es] at h ⊢
    split at h
    · rename_i hh
      rw [if_pos hh, List.length_drop, ln]
      rw [List.length_drop, ln] at h
      rw [List.getElem?_drop, e2, List.getElem?_append_right (by omega), el, show u + (a - u - 1) - (a - 1) = 0 by omega]
      rfl
    · simp at h
theorem resetR_ok {k : KP} {i t : Int} {l : List Int} (h : ¬ (i ≤ k.base ∨ 1152921504606846976 < i ∨ t < 0)) (h2 : ¬ 262144 < l.length) : resetR k i t l = (0, resetE k i t l) := by
  unfold resetR
  rw [if_neg h, if_neg h2]
/-- Between the rounds that put. -/
def CuR (W : World) (x p K g m : Nat) (i : Value) (wr : World) : Prop :=
  ∃ (j : Nat) (k : KP) (lst : List KP), j ≤ m ∧ j ≤ 40 ∧ i = .int .i64 j ∧ Kd W (fun b => b = x) 65536 (2000 * j) j p K k lst wr ∧ k.base = 0 ∧ k.es.length = j ∧ (∀ e ∈ k.es, e.1 = 3) ∧ Blk wr x 30 [.pointer (some ⟨p, 0, none⟩), .pointer (some ⟨K, 0, none⟩), .slice (some ⟨g, 0, none⟩) 1 1]
set_option maxRecDepth 100000 in
set_option maxHeartbeats 8000000 in
theorem KeepCuts_walk (W : World) (ls : SlV (SlV Int)) (hls : rBss.ok W ls) (at_ : Int) (hat : rInt.ok W at_) (up : Int) (hup : rInt.ok W up) (term : Int) (hterm : rInt.ok W term) :
    Calls Try.prog 5 #[ls.val, .int .i64 at_, .int .i64 up, .int .i64 term] W fun e w' => e = .returned (.bool true) ∧ Below W.heap.size W w' := by
  simp only [SlV.val]
  have HL := Lib.hid hls
  have HT := Lib.hid (int_i64 hterm)
  obtain ⟨t1, t2⟩ := int_ok hterm
  clear hls hat hup hterm
  by_cases h1 : (ls.xs.length : Int) < 1
  · go_enter Try.func5, Try.ntmps5
    go_wp2_with fail
    refine (awake_calls W).mono ?_
    rintro e w1 ⟨rfl, F1⟩
    have HF1 := Lib.hid F1
    clear F1
    dsimp only
    go_wp2_with fail
    go_ret
    exact ⟨rfl, HF1.out.below (Nat.le_refl _) (by simp)⟩
  by_cases h2 : (40 : Int) < (ls.xs.length : Int)
  · go_enter Try.func5, Try.ntmps5
    go_wp2_with fail
    refine (awake_calls W).mono ?_
    rintro e w1 ⟨rfl, F1⟩
    have HF1 := Lib.hid F1
    clear F1
    dsimp only
    go_wp2_with fail
    go_ret
    exact ⟨rfl, HF1.out.below (Nat.le_refl _) (by simp)⟩
  by_cases h3 : at_ < 1
  · go_enter Try.func5, Try.ntmps5
    go_wp2_with fail
    refine (awake_calls W).mono ?_
    rintro e w1 ⟨rfl, F1⟩
    have HF1 := Lib.hid F1
    clear F1
    dsimp only
    go_wp2_with fail
    go_ret
    exact ⟨rfl, HF1.out.below (Nat.le_refl _) (by simp)⟩
  by_cases h4 : (ls.xs.length : Int) < at_
  · go_enter Try.func5, Try.ntmps5
    go_wp2_with fail
    refine (awake_calls W).mono ?_
    rintro e w1 ⟨rfl, F1⟩
    have HF1 := Lib.hid F1
    clear F1
    dsimp only
    go_wp2_with fail
    go_ret
    exact ⟨rfl, HF1.out.below (Nat.le_refl _) (by simp)⟩
  by_cases h5 : up < 1
  · go_enter Try.func5, Try.ntmps5
    go_wp2_with fail
    refine (awake_calls W).mono ?_
    rintro e w1 ⟨rfl, F1⟩
    have HF1 := Lib.hid F1
    clear F1
    dsimp only
    go_wp2_with fail
    go_ret
    exact ⟨rfl, HF1.out.below (Nat.le_refl _) (by simp)⟩
  by_cases h6 : at_ < up
  · go_enter Try.func5, Try.ntmps5
    go_wp2_with fail
    refine (awake_calls W).mono ?_
    rintro e w1 ⟨rfl, F1⟩
    have HF1 := Lib.hid F1
    clear F1
    dsimp only
    go_wp2_with fail
    go_ret
    exact ⟨rfl, HF1.out.below (Nat.le_refl _) (by simp)⟩
  by_cases h7 : term < 0
  · go_enter Try.func5, Try.ntmps5
    go_wp2_with fail
    refine (awake_calls W).mono ?_
    rintro e w1 ⟨rfl, F1⟩
    have HF1 := Lib.hid F1
    clear F1
    dsimp only
    go_wp2_with fail
    go_ret
    exact ⟨rfl, HF1.out.below (Nat.le_refl _) (by simp)⟩
  obtain ⟨a, rfl⟩ : ∃ a : Nat, at_ = a := ⟨at_.toNat, by omega⟩
  obtain ⟨u, rfl⟩ : ∃ u : Nat, up = u := ⟨up.toNat, by omega⟩
  go_enter Try.func5, Try.ntmps5
  go_wp2_with fail
  refine (awake_calls W).mono ?_
  rintro e w1 ⟨rfl, F1⟩
  have HF1 := Lib.hid F1
  clear F1
  dsimp only
  go_wp2_with fail
  refine (begin_calls w1).mono ?_
  rintro e w2 ⟨p, K, g, M, rfl, hO, _, _, _⟩
  have HK2 := Lib.hid ((Kd.new hO).base HF1.out)
  clear hO
  have hd3 : ∀ v ∈ [Value.pointer (some ⟨p, 0, none⟩), .pointer (some ⟨K, 0, none⟩), .slice (some ⟨g, 0, none⟩) 1 1], v.oneCell' = true := by simp [Value.oneCell']
  dsimp only
  go_upto_region 6 with (first
    | (refine wpList_allocZ rfl 30 rfl _ desk_zero ?_; intro w3 B3 F3 S3)
    | (refine wpList_storeB rfl 30 _ _ rfl w2.heap.size 0 [.pointer (some ⟨p, 0, none⟩), .pointer (some ⟨K, 0, none⟩), .slice (some ⟨g, 0, none⟩) 1 1] (by rfl) (by rfl) 30 _ B3 (by simp [zD]) desk_size hd3 ?_; intro w4 B4 F4 S4; rw [splice_all _ _ (by rfl)] at B4; have hF24 : Fr [] w2 w4 := F3.trans F4 (fun x hx hlt => by simp at hx; omega); have HK4 := Lib.hid (And.intro ((HK2.out.wide hF24).less (Z' := fun b => b = w2.heap.size) (fun b hb => .inr (by have := B4.lt; omega))) B4); clear B3 F3 S3 B4 F4 S4 hF24))
  obtain ⟨x, hx⟩ : ∃ x, w2.heap.size = x := ⟨_, rfl⟩
  rw [hx] at HK4 ⊢
  clear hx hd3
  have R0 := Lib.hid (show CuR W x p K g ls.xs.length (.int .i64 (0 : Nat)) w4 from ⟨0, _, _, Nat.zero_le _, Nat.zero_le _, rfl, HK4.out.1, rfl, rfl, fun e he => absurd he (by simp [KP.new]), HK4.out.2⟩)
  go_wp2_with fail
  go_loopw [58] (fun i wr => CuR W x p K g ls.xs.length i wr) (fun i _ => ls.xs.length - (intOf i).toNat)
  case atStart => exact R0.out
  case round =>
    obtain ⟨j, k, lst, hj, hj4, rfl, hKd, hb0, hel, h3e, hX⟩ := hrel
    have HD := Lib.hid (And.intro hKd (And.intro hX (And.intro hb0 (And.intro hel h3e))))
    have c1 : wr.cell? ⟨x, 1, none⟩ = some (.pointer (some ⟨K, 0, none⟩)) := hX.cellAt rfl
    clear hKd hX hb0 hel h3e R0
    by_cases hlt : j < ls.xs.length
    · obtain ⟨o, ho⟩ : ∃ o, ls.xs[j]? = some o := ⟨_, List.getElem?_eq_getElem hlt⟩
      obtain ⟨b, off, ha, hr, hbl, hp⟩ := sl_at HL.out SlV.val (fun _ => rfl) j o ho
      obtain ⟨obt, or1, ole, ocap⟩ := bytes_ok hp
      have i0 : (0 : Int) ≤ (j : Int) := by omega
      have i3 : (j : Int) < (ls.xs.length : Int) := by omega
      have c0 : wr.cell? ⟨b, off + j, none⟩ = some (.slice o.a o.xs.length o.cap) := by
        have := rangeAt_fr hr HD.out.1.fr (by simp) 0 _ rfl
        rwa [Nat.add_zero] at this
      rw [ha]
      have HO := Lib.hid (And.intro obt or1.own)
      clear hr hp obt or1 ha ho
      by_cases hbig : (2000 : Int) < (o.xs.length : Int)
      · go_wp2_with fail
        go_ret
        exact ⟨rfl, HD.out.1.fr.below (Nat.le_refl _) (by simp)⟩
      · go_wp2_with fail
        refine (Kd.put (b := 2000) HD.out.1 (Fr.refl _ _) (by omega) (by omega) ((j : Int) + 1) 3 ⟨by omega, by omega⟩ ⟨by omega, by omega⟩ o.a o.xs.length o.cap o.xs rfl (by unfold maxLen; omega) (HO.out.2.step HD.out.1.fr (by simp) (fun b h => .inl h.2.1)) HO.out.1 (by omega) (by omega)).mono ?_
        rw [putR_snoc HD.out.2.2.1 HD.out.2.2.2.1 (by omega) (by omega)]
        rintro e w5 ⟨rfl, D5, kp5⟩
        obtain ⟨q1, q2, q3⟩ := putE_len (t := 3) (l := o.xs) HD.out.2.2.1 HD.out.2.2.2.1
        have q4 : ∀ e ∈ (putE k ((j : Int) + 1) 3 o.xs).es, e.1 = 3 := fun e he => by
          rcases List.mem_append.1 (show e ∈ k.es.take ((j : Int) + 1 - k.base - 1).toNat ++ [(3, o.xs)] from he) with he | he
          · exact HD.out.2.2.2.2 e (List.mem_of_mem_take he)
          · rw [List.mem_singleton.1 he]
        have HD5 := Lib.hid (And.intro D5 (And.intro (HD.out.2.1.stays kp5 rfl) (And.intro q1 (And.intro q2 q4))))
        clear D5 kp5 q1 q2 q3 q4
        dsimp only
        go_wp2_with fail
        go_roundw
        case rel => exact ⟨j + 1, _, _, by omega, by omega, by go_num, HD5.out.1.more (by omega) (by omega), HD5.out.2.2.1, HD5.out.2.2.2.1, HD5.out.2.2.2.2, HD5.out.2.1⟩
        case measure => simp [intOf]; omega
    · have i3 : ¬ (j : Int) < (ls.xs.length : Int) := by omega
      obtain ⟨n, hn⟩ : ∃ n, ls.xs.length = n := ⟨_, rfl⟩
      obtain rfl : j = n := by omega
      have HC := Lib.hid (cuts_plain (term := term) HD.out.2.2.1 HD.out.2.2.2.1 HD.out.2.2.2.2 (a := a) (u := u) (by omega) (by omega) (by omega) (by omega))
      have HN := Lib.hid hn
      clear hn
      go_wp2_with fail
      refine (Kd.put (b := 1) HD.out.1 ((Fr.refl [] wr).alloc (.cells #[.int .u8 9] 5)) (by omega) (by omega) (a : Int) 5 ⟨by omega, by omega⟩ ⟨by omega, by omega⟩ _ 1 1 [9] rfl (by decide) (rdA_one16 wr 5 _ (fun k hk => hk.2.2) 9) (byt116 (by decide) (by decide)) (by simp) (by omega)).mono ?_
      rw [putR_ok (show ¬ ((a : Int) ≤ k.base ∨ k.last + 1 < (a : Int) ∨ (5 : Int) < 0 ∨ 60000 < ([9] : List Int).length) from by
        have e1 := HD.out.2.2.1
        have e2 := HD.out.2.2.2.1
        have e3 : k.last = k.base + k.es.length := rfl
        rw [e3, e1, e2]
        simp
        omega)]
      rintro e w5 ⟨rfl, D5, kp5⟩
      have hla : (putE k a 5 [9]).last = a := by
        have e1 := HD.out.2.2.1
        have e2 := HD.out.2.2.2.1
        show k.base + (((k.es.take ((a : Int) - k.base - 1).toNat ++ [(5, [9])]).length : Nat) : Int) = a
        rw [List.length_append, List.length_take, e1, e2, List.length_singleton]
        omega
      have hb2 : (putE k a 5 [9]).base = 0 := HD.out.2.2.1
      obtain ⟨k2, hk2⟩ : ∃ k2, putE k a 5 [9] = k2 := ⟨_, rfl⟩
      rw [hk2] at D5 hla hb2
      have HC2 := Lib.hid (hk2 ▸ HC.out)
      have HD5 := Lib.hid (And.intro D5 (And.intro ((HD.out.2.1.fr ((Fr.refl [] wr).alloc (.cells #[.int .u8 9] 5)) (by simp)).stays kp5 rfl) hb2))
      have HLA := Lib.hid hla
      have c1 : w5.cell? ⟨x, 1, none⟩ = some (.pointer (some ⟨K, 0, none⟩)) := HD5.out.2.1.cellAt rfl
      clear D5 kp5 hla hb2 hk2
      dsimp only
      go_wp2_with fail
      obtain ⟨Y, q, vs0, ve0, hrd⟩ := HD5.out.1.rd
      refine (klast_calls hrd).mono ?_
      rintro e w6 ⟨rfl, m6, rfl⟩
      rw [HLA.out]
      have hd6 : Fr [] w5 (w5.drewN m6) := (Fr.refl [] w5).drewN m6
      have HF6 := Lib.hid hd6
      have c1 : (w5.drewN m6).cell? ⟨x, 1, none⟩ = some (.pointer (some ⟨K, 0, none⟩)) := (HD5.out.2.1.fr hd6 (by simp)).cellAt rfl
      generalize w5.drewN m6 = w6 at *
      clear hrd hd6
      dsimp only
      by_cases hua : u = a
      · subst hua
        have HC3 := Lib.hid (show (term = 5 → (resetE k2 u term [8]).es.length = u - u) ∧ (¬ term = 5 → (resetE k2 u term [8]).es.length = 0) ∧ (0 < (resetE k2 u term [8]).es.length → (resetE k2 u term [8]).es[(resetE k2 u term [8]).es.length - 1]? = some (5, [9])) by have := HC2.out; rwa [if_pos rfl] at this)
        go_wp2_with fail
        refine (Kd.reset (b := 1) HD5.out.1 (HF6.out.alloc (.cells #[.int .u8 8] 5)) (by omega) (u : Int) term ⟨by omega, by omega⟩ HT.out _ 1 1 [8] rfl (by omega) ((rdA_one16 w6 5 (fun k => k < w6.heap.size) (fun k hk => hk) 8).step (Fr.refl [] _) (by simp) (fun k hk => .inl (by have := HF6.out.size; have := hk.2.2; omega))) (byt116 (by decide) (by decide)) (by simp) (by omega) (by omega)).mono ?_
        rw [resetR_ok (show ¬ ((u : Int) ≤ k2.base ∨ 1152921504606846976 < (u : Int) ∨ term < 0) from by have := HD5.out.2.2; omega) (by simp)]
        rintro e w7 ⟨rfl, D7, kp7⟩
        obtain ⟨mm, hmm, hm1, hm2⟩ : ∃ mm, resetE k2 u term [8] = mm ∧ mm.base = u ∧ mm.bt = term := ⟨_, rfl, rfl, rfl⟩
        have HC4 := Lib.hid (hmm ▸ HC3.out)
        rw [hmm] at D7
        have HM1 := Lib.hid (And.intro hm1 hm2)
        have HD7 := Lib.hid (And.intro D7 ((HD5.out.2.1.fr (HF6.out.alloc (.cells #[.int .u8 8] 5)) (by simp)).stays kp7 rfl))
        have c1 : w7.cell? ⟨x, 1, none⟩ = some (.pointer (some ⟨K, 0, none⟩)) := HD7.out.2.cellAt rfl
        clear D7 kp7 hmm hm1 hm2
        dsimp only
        go_wp2_with fail
        refine (Kd.now HD7.out.1 (by omega)).mono ?_
        rintro e w8 ⟨cs, rfl, hR, F8⟩
        have HR := Lib.hid hR
        obtain ⟨vs, ve, rfl, hs, he⟩ := hR
        have ho1 := hs.one
        have ho2 := he.one
        have HF8 := Lib.hid F8
        clear hs he F8
        dsimp only
        go_upto_region 24 with (first
          | (refine wpList_allocZ rfl 39 rfl zR rkeep_zero ?_; intro w9 B9 F9 S9; have HB9 := Lib.hid B9; have HF9 := Lib.hid F9; clear B9 F9 S9)
          | (refine wpList_storeB rfl 39 _ _ rfl w8.heap.size 0 (refC mm vs ve) (by rfl) (by rfl) 39 _ HB9.out (by simp [refC, zR]) (by exact rkeep_size) (refC_one ho1 ho2) ?_; intro w10 B10 F10 S10; rw [splice_all _ _ (by rfl)] at B10; have HB10 := Lib.hid B10; have HF10 := Lib.hid F10; clear B10 F10 S10)
          | fail)
        have f10 : Fr [] w8 w10 := HF9.out.trans HF10.out (fun b hb hlt => by rw [List.mem_singleton.1 hb] at hlt; omega)
        have HR10 := Lib.hid (HR.out.fr0 f10)
        have HW10 := Lib.hid ((HD7.out.1.fr.trans0 HF8.out).trans0 f10)
        have x2 : w10.cell? ⟨w8.heap.size, 2, none⟩ = some (.int .i64 u) := by have := HB10.out.cellAt (i := 2) rfl; rwa [HM1.out.1] at this
        have x3 : w10.cell? ⟨w8.heap.size, 3, none⟩ = some (.int .i64 term) := by have := HB10.out.cellAt (i := 3) rfl; rwa [HM1.out.2] at this
        have x5 : w10.cell? ⟨w8.heap.size, 5, none⟩ = some ve := HB10.out.cellAt (i := 5) rfl
        clear f10
        by_cases ht : term = 5
        · have hL0 := (HC4.out.1 ht).trans (show u - u = 0 by omega)
          obtain ⟨vs', ve', he', _, ae, ce, css, hve, _, _, _⟩ := HR10.out
          have hvv : ve = .slice ae 0 ce := by
            rw [hL0] at hve
            have : ve = ve' := Option.some.inj (show some ve = some ve' from congrArg (fun l : List Value => l[5]?) he')
            rw [this]
            exact hve
          rw [hvv] at x5
          have HL0 := Lib.hid hL0
          clear hve he' hvv hL0
          go_wp2_with fail
          go_ret
          exact ⟨rfl, HW10.out.below (Nat.le_refl _) (by simp)⟩
        · have hL0 := HC4.out.2.1 ht
          obtain ⟨vs', ve', he', _, ae, ce, css, hve, _, _, _⟩ := HR10.out
          have hvv : ve = .slice ae 0 ce := by
            rw [hL0] at hve
            have : ve = ve' := Option.some.inj (show some ve = some ve' from congrArg (fun l : List Value => l[5]?) he')
            rw [this]
            exact hve
          rw [hvv] at x5
          have HL0 := Lib.hid hL0
          clear hve he' hvv hL0
          go_wp2_with fail
          go_ret
          exact ⟨rfl, HW10.out.below (Nat.le_refl _) (by simp)⟩
      · have j0 : ¬ (u : Int) = (a : Int) := by omega
        have HC3 := Lib.hid (show (term = 3 → (resetE k2 u term [8]).es.length = a - u) ∧ (¬ term = 3 → (resetE k2 u term [8]).es.length = 0) ∧ (0 < (resetE k2 u term [8]).es.length → (resetE k2 u term [8]).es[(resetE k2 u term [8]).es.length - 1]? = some (5, [9])) by have := HC2.out; rwa [if_neg hua] at this)
        go_wp2_with fail
        refine (Kd.reset (b := 1) HD5.out.1 (HF6.out.alloc (.cells #[.int .u8 8] 5)) (by omega) (u : Int) term ⟨by omega, by omega⟩ HT.out _ 1 1 [8] rfl (by omega) ((rdA_one16 w6 5 (fun k => k < w6.heap.size) (fun k hk => hk) 8).step (Fr.refl [] _) (by simp) (fun k hk => .inl (by have := HF6.out.size; have := hk.2.2; omega))) (byt116 (by decide) (by decide)) (by simp) (by omega) (by omega)).mono ?_
        rw [resetR_ok (show ¬ ((u : Int) ≤ k2.base ∨ 1152921504606846976 < (u : Int) ∨ term < 0) from by have := HD5.out.2.2; omega) (by simp)]
        rintro e w7 ⟨rfl, D7, kp7⟩
        obtain ⟨mm, hmm, hm1, hm2⟩ : ∃ mm, resetE k2 u term [8] = mm ∧ mm.base = u ∧ mm.bt = term := ⟨_, rfl, rfl, rfl⟩
        have HC4 := Lib.hid (hmm ▸ HC3.out)
        rw [hmm] at D7
        have HM1 := Lib.hid (And.intro hm1 hm2)
        have HD7 := Lib.hid (And.intro D7 ((HD5.out.2.1.fr (HF6.out.alloc (.cells #[.int .u8 8] 5)) (by simp)).stays kp7 rfl))
        have c1 : w7.cell? ⟨x, 1, none⟩ = some (.pointer (some ⟨K, 0, none⟩)) := HD7.out.2.cellAt rfl
        clear D7 kp7 hmm hm1 hm2
        dsimp only
        go_wp2_with fail
        refine (Kd.now HD7.out.1 (by omega)).mono ?_
        rintro e w8 ⟨cs, rfl, hR, F8⟩
        have HR := Lib.hid hR
        obtain ⟨vs, ve, rfl, hs, he⟩ := hR
        have ho1 := hs.one
        have ho2 := he.one
        have HF8 := Lib.hid F8
        clear hs he F8
        dsimp only
        go_upto_region 24 with (first
          | (refine wpList_allocZ rfl 39 rfl zR rkeep_zero ?_; intro w9 B9 F9 S9; have HB9 := Lib.hid B9; have HF9 := Lib.hid F9; clear B9 F9 S9)
          | (refine wpList_storeB rfl 39 _ _ rfl w8.heap.size 0 (refC mm vs ve) (by rfl) (by rfl) 39 _ HB9.out (by simp [refC, zR]) (by exact rkeep_size) (refC_one ho1 ho2) ?_; intro w10 B10 F10 S10; rw [splice_all _ _ (by rfl)] at B10; have HB10 := Lib.hid B10; have HF10 := Lib.hid F10; clear B10 F10 S10)
          | fail)
        have f10 : Fr [] w8 w10 := HF9.out.trans HF10.out (fun b hb hlt => by rw [List.mem_singleton.1 hb] at hlt; omega)
        have HR10 := Lib.hid (HR.out.fr0 f10)
        have HW10 := Lib.hid ((HD7.out.1.fr.trans0 HF8.out).trans0 f10)
        have x2 : w10.cell? ⟨w8.heap.size, 2, none⟩ = some (.int .i64 u) := by have := HB10.out.cellAt (i := 2) rfl; rwa [HM1.out.1] at this
        have x3 : w10.cell? ⟨w8.heap.size, 3, none⟩ = some (.int .i64 term) := by have := HB10.out.cellAt (i := 3) rfl; rwa [HM1.out.2] at this
        have x5 : w10.cell? ⟨w8.heap.size, 5, none⟩ = some ve := HB10.out.cellAt (i := 5) rfl
        clear f10
        by_cases ht : term = 3
        · obtain ⟨d, hd⟩ : ∃ d, a - u = d + 1 := ⟨a - u - 1, by omega⟩
          have hL1 := (HC4.out.1 ht).trans hd
          have j1 : IntKind.i64.wrap ((a : Int) - (u : Int)) = (d : Int) + 1 := by rw [show (a : Int) - (u : Int) = (d : Int) + 1 by omega]; exact IntWalk.i64_in _ (by omega)
          obtain ⟨vs', ve', he', _, ae, ce, css, hve, hrow, _, _⟩ := HR10.out
          have hvv : ve = .slice ae (d + 1) ce := by
            rw [hL1] at hve
            have : ve = ve' := Option.some.inj (show some ve = some ve' from congrArg (fun l : List Value => l[5]?) he')
            rw [this]
            exact hve
          have hlast := HC4.out.2.2 (by omega)
          rw [hL1, Nat.add_sub_cancel] at hlast
          obtain ⟨ge, oe, cs6, ea, _, _, _, ⟨v9, rfl, a9, c9, rfl, hr9, _, _⟩, hrg⟩ := hrow.get (by decide) hlast
          subst ea
          have e0 : w10.cell? ⟨ge, oe + d * 2, none⟩ = some (.int .i64 5) := hrg 0 _ rfl
          have e1 : w10.cell? ⟨ge, oe + d * 2 + 1, none⟩ = some (.slice a9 1 c9) := hrg 1 _ rfl
          have HR9 := Lib.hid hr9
          have HRG := Lib.hid hrg
          have HX5 := Lib.hid (hvv ▸ HB10.out)
          rw [hvv] at x5
          have HL1 := Lib.hid hL1
          have HVV := Lib.hid hvv
          have j2 : IntKind.i64.wrap ((d : Int) + 1 - 1) = (d : Int) := by rw [show (d : Int) + 1 - 1 = (d : Int) by omega]; exact IntWalk.i64_in _ (by omega)
          have j3 : (0 : Int) ≤ (d : Int) := by omega
          have j4 : (d : Int) < (d : Int) + 1 := by omega
          have j5 : ¬ ((d : Int) + 1 = 0) := by omega
          clear hve he' hvv hL1 hlast hrow hr9 hrg
          go_wp2_with fail
          refine (bytes_calls _ a9 _ c9 1 1 1 [9] [9] rfl rfl (byt116 (by decide) (by decide)) (byt116 (by decide) (by decide)) ((show Rd w10 a9 (bv [9]) from HR9.out.rd).fr0 ((Fr.refl [] w10).alloc (.cells #[.int .u8 9] 5))) ((rdA_one16 w10 5 (fun _ => False) (fun _ h => h.elim) 9).rd)).mono ?_
          rintro e w11 ⟨rfl, rfl⟩
          rw [show decide (([9] : List Int) = [9]) = true from rfl]
          have HW11 := Lib.hid (HW10.out.alloc (.cells #[.int .u8 9] 5))
          dsimp only
          go_wp2_with fail
          go_ret
          exact ⟨rfl, HW11.out.below (Nat.le_refl _) (by simp)⟩
        · have hL0 := HC4.out.2.1 ht
          obtain ⟨vs', ve', he', _, ae, ce, css, hve, _, _, _⟩ := HR10.out
          have hvv : ve = .slice ae 0 ce := by
            rw [hL0] at hve
            have : ve = ve' := Option.some.inj (show some ve = some ve' from congrArg (fun l : List Value => l[5]?) he')
            rw [this]
            exact hve
          rw [hvv] at x5
          have HL0 := Lib.hid hL0
          clear hve he' hvv hL0
          go_wp2_with fail
          go_ret
          exact ⟨rfl, HW10.out.below (Nat.le_refl _) (by simp)⟩
end Go.Fur
