/- StoreAny: the walk. -/
import Derived.Test.YtmhejgelmmjihaaAny15P
import Derived.Test.YtmhejgelmmjihaaStale15
namespace Go.Fur
open Go Go.RowKit Go.Proofs
set_option linter.unusedVariables false
set_option linter.unusedSimpArgs false
def AnyD (W : World) (p bb n L : Nat) (wr : World) : Prop := ∃ lv d, DiskAt wr W.heap.size p bb lv d ∧ d.byt ∧ d.now.length = n ∧ d.loose.length ≤ L ∧ Fr [] W wr
def AnyS (W : World) (p bb q n L C : Nat) (wr : World) : Prop := ∃ lv tl d s, StoAt wr W.heap.size p bb q lv tl d s ∧ Any d s C ∧ d.now.length = n ∧ d.loose.length ≤ L ∧ Fr [] W wr
theorem AnyS.app {W w : World} {p bb q n L C : Nat} (h : AnyS W p bb q n L C w) (hL : L ≤ 100000) (hC : C ≤ 100000) (hn : n ≤ 700) (a : Option Addr) (m c : Nat) (l : List Int) (hm : l.length = m) (hr : Rd w a (bv l)) (hl : Byt l) (hmc : m ≤ maxLen) (f : FuncId) (hf : f = 12) :
    Calls Try.prog f #[.pointer (some ⟨q, 0, none⟩), .slice a m c] w fun e w' => (∃ x, e = .returned (.int .i64 x)) ∧ AnyS W p bb q n (L + 1300) (C + 1) w' := by
  subst hf
  obtain ⟨lv, tl, d, s, h1, h2, h3, h4, h5⟩ := h
  have hh : halfP d ≤ 350 := by unfold halfP; omega
  have := h2.at_
  have := h2.cn
  refine (append_calls h1 h5.size a m c l hm hr hl hmc h2.tl (by omega) (by omega) (by omega)).mono ?_
  rintro e w1 ⟨lv1, tl1, rfl, S1, st1, X1⟩
  obtain ⟨a1, a2, a3⟩ := appS_any h2 l
  exact ⟨⟨_, rfl⟩, lv1, tl1, _, _, S1, a1, a2.trans h3, by omega, Sd.frame h5 h1 st1⟩
theorem AnyS.chk {W w : World} {p bb q n L C : Nat} (h : AnyS W p bb q n L C w) (a : Option Addr) (m c : Nat) (l : List Int) (hm : l.length = m) (hr : RdA w (fun k => W.heap.size ≤ k) a (bv l)) (hl : Byt l) (hmc : m ≤ maxLen) (f : FuncId) (hf : f = 13) :
    Calls Try.prog f #[.pointer (some ⟨q, 0, none⟩), .slice a m c] w fun e w' => (∃ x, e = .returned (.int .i64 x)) ∧ AnyS W p bb q n (L + 1300) C w' := by
  subst hf
  obtain ⟨lv, tl, d, s, h1, h2, h3, h4, h5⟩ := h
  refine (check_calls h1 h5.size a m c l hm (hr.step (Fr.refl [] w) (by simp) (fun k hk => .inl (stoX_ge h1 hk).1)) hl hmc).mono ?_
  rintro e w1 ⟨lv1, tl1, rfl, S1, st1, X1⟩
  obtain ⟨a1, a2, a3⟩ := ckS_any h2 l
  exact ⟨⟨_, rfl⟩, lv1, tl1, _, _, S1, a1, a2.trans h3, by omega, Sd.frame h5 h1 st1⟩
theorem AnyS.sync {W w : World} {p bb q n L C : Nat} (h : AnyS W p bb q n L C w) (f : FuncId) (hf : f = 14) :
    Calls Try.prog f #[.pointer (some ⟨q, 0, none⟩)] w fun e w' => (∃ x, e = .returned (.int .i64 x)) ∧ AnyS W p bb q n L C w' := by
  subst hf
  obtain ⟨lv, tl, d, s, h1, h2, h3, h4, h5⟩ := h
  refine (ssync_calls h1).mono ?_
  rintro e w1 ⟨rfl, S1, F1⟩
  refine ⟨⟨_, rfl⟩, _, tl, d.calm, _, S1, ⟨h2.tl, h2.at_, h2.cn, h2.cn⟩, h3, by simp [D.calm], h5.trans F1 (fun k hk hlt => ?_)⟩
  simp only [List.mem_cons, List.not_mem_nil, or_false] at hk
  have := h1.da.bp
  have := h1.bq
  omega
theorem AnyS.open {W w : World} {p bb q n L C : Nat} (h : AnyS W p bb q n L C w) (f : FuncId) (hf : f = 11) :
    Calls Try.prog f #[.pointer (some ⟨p, 0, none⟩)] w fun e w' => (∃ x, e = .returned x) ∧ AnyS W p bb q n L C w' := by
  subst hf
  obtain ⟨lv, tl, d, s, h1, h2, h3, h4, h5⟩ := h
  refine (open_calls h1.da h1.yd).mono ?_
  rintro e w1 ⟨q', vs, vr, tl1, m1, m2, rfl, O1, F1⟩
  have hqp : ∀ k ∈ ob tl, k ∉ [p] := fun k hk hm => by
    obtain ⟨cur, hc⟩ := h1.ht.blkOf hk
    exact hc.ne h1.da.hp (by decide) (List.mem_singleton.1 hm)
  refine ⟨⟨_, rfl⟩, _, tl, d.calm, s, ⟨O1.da, h1.yd.calm, h1.hq.fr F1 (fun hm => h1.hq.ne h1.da.hp (by decide) (List.mem_singleton.1 hm)), h1.ht.fr F1 hqp, h1.yt, h1.bq, h1.g32, h1.l32⟩, ⟨h2.tl, h2.at_, h2.cn, h2.sf⟩, h3, by simp [D.calm], h5.trans F1 (fun k hk hlt => ?_)⟩
  rw [List.mem_singleton.1 hk] at hlt
  have := h1.da.bp
  omega
theorem AnyD.open {W w : World} {p bb n L : Nat} (h : AnyD W p bb n L w) (f : FuncId) (hf : f = 11) :
    Calls Try.prog f #[.pointer (some ⟨p, 0, none⟩)] w fun e w' => ∃ q b av ms cs ar mr cr, e = .returned (.tuple #[.pointer (some ⟨q, 0, none⟩), .agg #[.bool b, .slice av ms cs, .slice ar mr cr], .int .i64 0]) ∧ AnyS W p bb q n L (n * 55 + 1) w' := by
  subst hf
  obtain ⟨lv, d, h1, h2, h3, h4, h5⟩ := h
  refine (open_calls h1 h2).mono ?_
  rintro e w1 ⟨q, vs, vr, tl1, m1, m2, rfl, O1, F1⟩
  obtain ⟨as1, cs1, hvs, _, _, _⟩ := O1.sn.form
  obtain ⟨us, hus, _, _⟩ := O1.rs
  obtain ⟨ar1, cr1, hvr, _, _, _⟩ := hus.form
  subst hvs hvr
  obtain ⟨g1, g2⟩ := open_gen d
  have S1 := O1.sto h5.size h2 (open_tail h2) (by rw [g1]; exact rootP_lt h2.now) (by rw [g2]; exact lifeP_lt d)
  have A1 := any_open d
  have hh : halfP d ≤ n := by unfold halfP; omega
  refine ⟨q, _, _, _, _, _, _, _, rfl, _, tl1, _, _, S1, ⟨A1.tl, A1.at_, by have := A1.cn; omega, by have := A1.sf; omega⟩, h3, by simp [D.calm], h5.trans F1 (fun k hk hlt => ?_)⟩
  rw [List.mem_singleton.1 hk] at hlt
  have := h1.bp
  omega
def AnR (W : World) (p bb n m : Nat) (i : Value) (wr : World) : Prop := ∃ k : Nat, k ≤ m ∧ i = .int .i64 k ∧ AnyD W p bb n (min k 300) wr
theorem AnyD.write {W w : World} {p bb n L : Nat} (h : AnyD W p bb n L w) (hL : L ≤ 300) (x : Int) (a : Option Addr) (m c : Nat) (l : List Int) (hm : l.length = m) (hr : Rd w a (bv l)) (hl : Byt l) (f : FuncId) (hf : f = 10) :
    Calls Try.prog f #[.pointer (some ⟨p, 0, none⟩), .int .i64 x, .slice a m c] w fun e w' => (∃ y, e = .returned (.int .i64 y)) ∧ AnyD W p bb n (L + 1) w' := by
  subst hf
  obtain ⟨lv, d, h1, h2, h3, h4, h5⟩ := h
  refine (write_all h1 h5.size x a m c l hm hr (by omega)).mono ?_
  rintro e w1 ⟨lv1, rfl, D1, F1, K1⟩
  have := write_loose d x l
  exact ⟨⟨_, rfl⟩, lv1, _, D1, h2.write hl, (write_length d x l).trans h3, by omega, h5.trans F1 (fun k hk hlt => by have := h1.ge k hk; omega)⟩
theorem AnyS.fr0 {W w w' : World} {p bb q n L C : Nat} (h : AnyS W p bb q n L C w) (f : Fr [] w w') : AnyS W p bb q n L C w' := by
  obtain ⟨lv, tl, d, s, h1, h2, h3, h4, h5⟩ := h
  exact ⟨lv, tl, d, s, h1.fr0 f, h2, h3, h4, h5.trans0 f⟩
theorem AnyS.fr {W w : World} {p bb q n L C : Nat} (h : AnyS W p bb q n L C w) : Fr [] W w := by
  obtain ⟨lv, tl, d, s, h1, h2, h3, h4, h5⟩ := h
  exact h5
theorem AnyD.fr {W w : World} {p bb n L : Nat} (h : AnyD W p bb n L w) : Fr [] W w := by
  obtain ⟨lv, d, h1, h2, h3, h4, h5⟩ := h
  exact h5
theorem AnyS.len {W w : World} {p bb q n L C : Nat} (h : AnyS W p bb q n L C w) (f : FuncId) (hf : f = 15) :
    Calls Try.prog f #[.pointer (some ⟨q, 0, none⟩)] w fun e w' => (∃ y : Nat, e = .returned (.int .i64 y)) ∧ w = w' := by
  subst hf
  obtain ⟨lv, tl, d, s, h1, h2, h3, h4, h5⟩ := h
  exact (slen_calls h1).mono fun e w' hw => ⟨⟨_, hw.1⟩, hw.2⟩
theorem AnyS.saf {W w : World} {p bb q n L C : Nat} (h : AnyS W p bb q n L C w) (f : FuncId) (hf : f = 16) :
    Calls Try.prog f #[.pointer (some ⟨q, 0, none⟩)] w fun e w' => (∃ y : Nat, e = .returned (.int .i64 y)) ∧ w = w' := by
  subst hf
  obtain ⟨lv, tl, d, s, h1, h2, h3, h4, h5⟩ := h
  exact (ssafe_calls h1).mono fun e w' hw => ⟨⟨_, hw.1⟩, hw.2⟩
set_option maxRecDepth 100000 in
set_option maxHeartbeats 8000000 in
theorem StoreAny_walk (W : World) (n0 : Int) (hn0 : rInt.ok W n0) (ks : SlV Int) (hks : rInts.ok W ks) (ls : SlV (SlV Int)) (hls : rBss.ok W ls) (x : SlV Int) (hx : rBytes.ok W x) :
    Calls Try.prog 3 #[.int .i64 n0, ks.val, ls.val, x.val] W fun e w' => e = .returned (.bool true) ∧ Below W.heap.size W w' := by
  simp only [SlV.val]
  obtain ⟨pbt, pr, ple, pcap⟩ := bytes_ok hx
  obtain ⟨i1, i2⟩ := int_ok hn0
  have hlen : ls.xs.length ≤ 9000000000000000000 := by
    obtain ⟨q1, q2, q3, _⟩ := hls
    have : reachBytes = 140737488351232 := by decide
    omega
  have HL := Lib.hid hls
  have HK := Lib.hid hks
  have HX := Lib.hid (And.intro pbt pr.own)
  clear hls hks hx pbt pr hn0
  rcases Int.lt_or_le n0 0 with h0 | h0
  · go_enter Try.func3, Try.ntmps3
    go_wp2_with fail
    refine (awake_calls W).mono ?_
    rintro e w1 ⟨rfl, F1⟩
    have HF1 := Lib.hid F1
    clear F1
    dsimp only
    go_wp2_with fail
    all_goals first | (exfalso; omega) | skip
    obtain ⟨n, hn⟩ : ∃ n : Nat, n = 1 := ⟨_, rfl⟩
    rw [show (1 : Int) = (n : Int) by omega]
    refine (new_calls w1 n (by omega) (by omega)).mono ?_
    rintro e w2 ⟨rfl, D2, F2⟩
    have h11 := HF1.out.size
    obtain ⟨p, hp⟩ : ∃ p, w1.heap.size + 1 = p := ⟨_, rfl⟩
    obtain ⟨bb, hbb⟩ : ∃ bb, w1.heap.size = bb := ⟨_, rfl⟩
    rw [hp] at D2
    have A2 : AnyD W p bb n 0 w2 := ⟨_, _, (hbb ▸ D2.wbase h11), D.new_byt n, by simp [D.new], by simp [D.new], HF1.out.trans0 F2⟩
    rw [hp]
    have HA2 := Lib.hid A2
    clear D2 F2 hp hbb A2 h11
    dsimp only
    by_cases hbig : (131072 : Int) < (x.xs.length : Int)
    · go_wp2_with fail
      go_ret
      exact ⟨rfl, HA2.out.fr.below (Nat.le_refl _) (by simp)⟩
    · go_wp2_with fail
      go_loopw [37] (fun i wr => AnR W p bb n ls.xs.length i wr) (fun i _ => ls.xs.length - (intOf i).toNat)
      case atStart => exact ⟨0, Nat.zero_le _, rfl, HA2.out⟩
      case round =>
        obtain ⟨k, hk, rfl, hD⟩ := hrel
        have HD := Lib.hid hD
        clear hD
        by_cases hlt : k < ls.xs.length
        · obtain ⟨o, ho⟩ : ∃ o, ls.xs[k]? = some o := ⟨_, List.getElem?_eq_getElem hlt⟩
          obtain ⟨b, off, ha, hr, hbl, hp⟩ := sl_at HL.out SlV.val (fun _ => rfl) k o ho
          obtain ⟨obt, or1, ole, ocap⟩ := bytes_ok hp
          have i0 : (0 : Int) ≤ (k : Int) := by omega
          have i3 : (k : Int) < (ls.xs.length : Int) := by omega
          have c0 : wr.cell? ⟨b, off + k, none⟩ = some (.slice o.a o.xs.length o.cap) := by
            have := rangeAt_fr hr HD.out.fr (by simp) 0 _ rfl
            rwa [Nat.add_zero] at this
          rw [ha]
          have HO := Lib.hid (And.intro obt or1)
          have HAA := Lib.hid ha
          clear hr hp obt or1 ha ho
          by_cases hkl : k < ks.xs.length
          · have i5 : (k : Int) < (ks.xs.length : Int) := by omega
            by_cases h300 : (k : Int) < 300
            · obtain ⟨y, hy⟩ : ∃ y, ks.xs[k]? = some y := ⟨_, List.getElem?_eq_getElem hkl⟩
              obtain ⟨b2, off2, ha2, hr2, hbl2, hp2⟩ := sl_at HK.out (fun y => .int .i64 y) (fun _ => rfl) k y hy
              have c9 : wr.cell? ⟨b2, off2 + k, none⟩ = some (.int .i64 y) := by
                have := rangeAt_fr hr2 HD.out.fr (by simp) 0 _ rfl
                rwa [Nat.add_zero] at this
              rw [ha2]
              have HA3 := Lib.hid ha2
              clear hr2 ha2 hy hp2
              go_wp2_with fail
              refine (HD.out.write (by omega) y o.a o.xs.length o.cap o.xs rfl (HO.out.2.fr0 HD.out.fr) HO.out.1 _ rfl).mono ?_
              rintro e w5 ⟨⟨z, rfl⟩, D5⟩
              rw [show min k 300 + 1 = min (k + 1) 300 by omega] at D5
              have HD5 := Lib.hid D5
              clear D5
              dsimp only
              go_wp2_with fail
              exact ⟨⟨k + 1, by omega, by go_num, HD5.out⟩, by simp [intOf]; omega⟩
            · go_wp2_with fail
              have D5 := HD.out
              rw [show min k 300 = min (k + 1) 300 by omega] at D5
              have HD5 := Lib.hid D5
              clear D5
              exact ⟨⟨k + 1, by omega, by go_num, HD5.out⟩, by simp [intOf]; omega⟩
          · have i5 : ¬ (k : Int) < (ks.xs.length : Int) := by omega
            go_wp2_with fail
            have hd := HD.out
            obtain ⟨lv, d, d1, d2, d3, d4, d5⟩ := hd
            have HD5 := Lib.hid (show AnyD W p bb n (min (k + 1) 300) wr from ⟨lv, d, d1, d2, d3, by omega, d5⟩)
            clear d1 d2 d3 d4 d5
            exact ⟨⟨k + 1, by omega, by go_num, HD5.out⟩, by simp [intOf]; omega⟩
        · have i3 : ¬ (k : Int) < (ls.xs.length : Int) := by omega
          go_wp2_with fail
          refine (HD.out.open _ rfl).mono ?_
          rintro e w3 ⟨q, b, av, ms, cs, ar, mr, cr, rfl, S3⟩
          have HS3 := Lib.hid S3
          clear S3
          dsimp only
          go_wp2_with fail
          have S4 := HS3.out.fr0 ((Fr.refl [] w3).alloc (.cells #[.bool b, .slice av ms cs, .slice ar mr cr] 33))
          generalize w3.alloc (.cells #[.bool b, .slice av ms cs, .slice ar mr cr] 33) = w4 at *
          generalize w3.heap.size = g at *
          have HS4 := Lib.hid S4
          clear S4 HS3
          refine (HS4.out.app (by omega) (by omega) (by omega) x.a x.xs.length x.cap x.xs rfl (HX.out.2.rd.fr0 HS4.out.fr) HX.out.1 (by unfold maxLen; omega) _ rfl).mono ?_
          rintro e w5 ⟨⟨x5, rfl⟩, S5⟩
          have HS5 := Lib.hid S5
          clear S5 HS4
          dsimp only
          go_wp2_with fail
          refine (HS5.out.chk x.a x.xs.length x.cap x.xs rfl (HX.out.2.fr0 HS5.out.fr) HX.out.1 (by unfold maxLen; omega) _ rfl).mono ?_
          rintro e w6 ⟨⟨x6, rfl⟩, S6⟩
          have HS6 := Lib.hid S6
          clear S6 HS5
          dsimp only
          go_wp2_with fail
          refine (HS6.out.app (by omega) (by omega) (by omega) x.a x.xs.length x.cap x.xs rfl (HX.out.2.rd.fr0 HS6.out.fr) HX.out.1 (by unfold maxLen; omega) _ rfl).mono ?_
          rintro e w7 ⟨⟨x7, rfl⟩, S7⟩
          have HS7 := Lib.hid S7
          clear S7 HS6
          dsimp only
          go_wp2_with fail
          refine (HS7.out.sync _ rfl).mono ?_
          rintro e w8 ⟨⟨x8, rfl⟩, S8⟩
          have HS8 := Lib.hid S8
          clear S8 HS7
          dsimp only
          go_wp2_with fail
          refine (HS8.out.open _ rfl).mono ?_
          rintro e w9 ⟨⟨x9, rfl⟩, S9⟩
          have HS9 := Lib.hid S9
          clear S9 HS8
          dsimp only
          go_wp2_with fail
          refine (HS9.out.len _ rfl).mono ?_
          rintro e w10 ⟨⟨y1, rfl⟩, rfl⟩
          dsimp only
          have j1 : (0 : Int) ≤ (y1 : Int) := by omega
          go_wp2_with fail
          refine (HS9.out.saf _ rfl).mono ?_
          rintro e w11 ⟨⟨y2, rfl⟩, rfl⟩
          dsimp only
          have j2 : (0 : Int) ≤ (y2 : Int) := by omega
          go_wp2_with fail
          go_ret
          exact ⟨rfl, HS9.out.fr.below (Nat.le_refl _) (by simp)⟩
  · rcases Int.lt_or_le 600 n0 with h3 | h3
    · go_enter Try.func3, Try.ntmps3
      go_wp2_with fail
      refine (awake_calls W).mono ?_
      rintro e w1 ⟨rfl, F1⟩
      have HF1 := Lib.hid F1
      clear F1
      dsimp only
      go_wp2_with fail
      all_goals first | (exfalso; omega) | skip
      obtain ⟨n, hn⟩ : ∃ n : Nat, n = 601 := ⟨_, rfl⟩
      rw [show (601 : Int) = (n : Int) by omega]
      refine (new_calls w1 n (by omega) (by omega)).mono ?_
      rintro e w2 ⟨rfl, D2, F2⟩
      have h11 := HF1.out.size
      obtain ⟨p, hp⟩ : ∃ p, w1.heap.size + 1 = p := ⟨_, rfl⟩
      obtain ⟨bb, hbb⟩ : ∃ bb, w1.heap.size = bb := ⟨_, rfl⟩
      rw [hp] at D2
      have A2 : AnyD W p bb n 0 w2 := ⟨_, _, (hbb ▸ D2.wbase h11), D.new_byt n, by simp [D.new], by simp [D.new], HF1.out.trans0 F2⟩
      rw [hp]
      have HA2 := Lib.hid A2
      clear D2 F2 hp hbb A2 h11
      dsimp only
      by_cases hbig : (131072 : Int) < (x.xs.length : Int)
      · go_wp2_with fail
        go_ret
        exact ⟨rfl, HA2.out.fr.below (Nat.le_refl _) (by simp)⟩
      · go_wp2_with fail
        go_loopw [37] (fun i wr => AnR W p bb n ls.xs.length i wr) (fun i _ => ls.xs.length - (intOf i).toNat)
        case atStart => exact ⟨0, Nat.zero_le _, rfl, HA2.out⟩
        case round =>
          obtain ⟨k, hk, rfl, hD⟩ := hrel
          have HD := Lib.hid hD
          clear hD
          by_cases hlt : k < ls.xs.length
          · obtain ⟨o, ho⟩ : ∃ o, ls.xs[k]? = some o := ⟨_, List.getElem?_eq_getElem hlt⟩
            obtain ⟨b, off, ha, hr, hbl, hp⟩ := sl_at HL.out SlV.val (fun _ => rfl) k o ho
            obtain ⟨obt, or1, ole, ocap⟩ := bytes_ok hp
            have i0 : (0 : Int) ≤ (k : Int) := by omega
            have i3 : (k : Int) < (ls.xs.length : Int) := by omega
            have c0 : wr.cell? ⟨b, off + k, none⟩ = some (.slice o.a o.xs.length o.cap) := by
              have := rangeAt_fr hr HD.out.fr (by simp) 0 _ rfl
              rwa [Nat.add_zero] at this
            rw [ha]
            have HO := Lib.hid (And.intro obt or1)
            have HAA := Lib.hid ha
            clear hr hp obt or1 ha ho
            by_cases hkl : k < ks.xs.length
            · have i5 : (k : Int) < (ks.xs.length : Int) := by omega
              by_cases h300 : (k : Int) < 300
              · obtain ⟨y, hy⟩ : ∃ y, ks.xs[k]? = some y := ⟨_, List.getElem?_eq_getElem hkl⟩
                obtain ⟨b2, off2, ha2, hr2, hbl2, hp2⟩ := sl_at HK.out (fun y => .int .i64 y) (fun _ => rfl) k y hy
                have c9 : wr.cell? ⟨b2, off2 + k, none⟩ = some (.int .i64 y) := by
                  have := rangeAt_fr hr2 HD.out.fr (by simp) 0 _ rfl
                  rwa [Nat.add_zero] at this
                rw [ha2]
                have HA3 := Lib.hid ha2
                clear hr2 ha2 hy hp2
                go_wp2_with fail
                refine (HD.out.write (by omega) y o.a o.xs.length o.cap o.xs rfl (HO.out.2.fr0 HD.out.fr) HO.out.1 _ rfl).mono ?_
                rintro e w5 ⟨⟨z, rfl⟩, D5⟩
                rw [show min k 300 + 1 = min (k + 1) 300 by omega] at D5
                have HD5 := Lib.hid D5
                clear D5
                dsimp only
                go_wp2_with fail
                exact ⟨⟨k + 1, by omega, by go_num, HD5.out⟩, by simp [intOf]; omega⟩
              · go_wp2_with fail
                have D5 := HD.out
                rw [show min k 300 = min (k + 1) 300 by omega] at D5
                have HD5 := Lib.hid D5
                clear D5
                exact ⟨⟨k + 1, by omega, by go_num, HD5.out⟩, by simp [intOf]; omega⟩
            · have i5 : ¬ (k : Int) < (ks.xs.length : Int) := by omega
              go_wp2_with fail
              have hd := HD.out
              obtain ⟨lv, d, d1, d2, d3, d4, d5⟩ := hd
              have HD5 := Lib.hid (show AnyD W p bb n (min (k + 1) 300) wr from ⟨lv, d, d1, d2, d3, by omega, d5⟩)
              clear d1 d2 d3 d4 d5
              exact ⟨⟨k + 1, by omega, by go_num, HD5.out⟩, by simp [intOf]; omega⟩
          · have i3 : ¬ (k : Int) < (ls.xs.length : Int) := by omega
            go_wp2_with fail
            refine (HD.out.open _ rfl).mono ?_
            rintro e w3 ⟨q, b, av, ms, cs, ar, mr, cr, rfl, S3⟩
            have HS3 := Lib.hid S3
            clear S3
            dsimp only
            go_wp2_with fail
            have S4 := HS3.out.fr0 ((Fr.refl [] w3).alloc (.cells #[.bool b, .slice av ms cs, .slice ar mr cr] 33))
            generalize w3.alloc (.cells #[.bool b, .slice av ms cs, .slice ar mr cr] 33) = w4 at *
            generalize w3.heap.size = g at *
            have HS4 := Lib.hid S4
            clear S4 HS3
            refine (HS4.out.app (by omega) (by omega) (by omega) x.a x.xs.length x.cap x.xs rfl (HX.out.2.rd.fr0 HS4.out.fr) HX.out.1 (by unfold maxLen; omega) _ rfl).mono ?_
            rintro e w5 ⟨⟨x5, rfl⟩, S5⟩
            have HS5 := Lib.hid S5
            clear S5 HS4
            dsimp only
            go_wp2_with fail
            refine (HS5.out.chk x.a x.xs.length x.cap x.xs rfl (HX.out.2.fr0 HS5.out.fr) HX.out.1 (by unfold maxLen; omega) _ rfl).mono ?_
            rintro e w6 ⟨⟨x6, rfl⟩, S6⟩
            have HS6 := Lib.hid S6
            clear S6 HS5
            dsimp only
            go_wp2_with fail
            refine (HS6.out.app (by omega) (by omega) (by omega) x.a x.xs.length x.cap x.xs rfl (HX.out.2.rd.fr0 HS6.out.fr) HX.out.1 (by unfold maxLen; omega) _ rfl).mono ?_
            rintro e w7 ⟨⟨x7, rfl⟩, S7⟩
            have HS7 := Lib.hid S7
            clear S7 HS6
            dsimp only
            go_wp2_with fail
            refine (HS7.out.sync _ rfl).mono ?_
            rintro e w8 ⟨⟨x8, rfl⟩, S8⟩
            have HS8 := Lib.hid S8
            clear S8 HS7
            dsimp only
            go_wp2_with fail
            refine (HS8.out.open _ rfl).mono ?_
            rintro e w9 ⟨⟨x9, rfl⟩, S9⟩
            have HS9 := Lib.hid S9
            clear S9 HS8
            dsimp only
            go_wp2_with fail
            refine (HS9.out.len _ rfl).mono ?_
            rintro e w10 ⟨⟨y1, rfl⟩, rfl⟩
            dsimp only
            have j1 : (0 : Int) ≤ (y1 : Int) := by omega
            go_wp2_with fail
            refine (HS9.out.saf _ rfl).mono ?_
            rintro e w11 ⟨⟨y2, rfl⟩, rfl⟩
            dsimp only
            have j2 : (0 : Int) ≤ (y2 : Int) := by omega
            go_wp2_with fail
            go_ret
            exact ⟨rfl, HS9.out.fr.below (Nat.le_refl _) (by simp)⟩
    · go_enter Try.func3, Try.ntmps3
      go_wp2_with fail
      refine (awake_calls W).mono ?_
      rintro e w1 ⟨rfl, F1⟩
      have HF1 := Lib.hid F1
      clear F1
      dsimp only
      go_wp2_with fail
      all_goals first | (exfalso; omega) | skip
      obtain ⟨n, hn⟩ : ∃ n : Nat, (n : Int) = 1 + n0 := ⟨(1 + n0).toNat, by omega⟩
      rw [← hn]
      refine (new_calls w1 n (by omega) (by omega)).mono ?_
      rintro e w2 ⟨rfl, D2, F2⟩
      have h11 := HF1.out.size
      obtain ⟨p, hp⟩ : ∃ p, w1.heap.size + 1 = p := ⟨_, rfl⟩
      obtain ⟨bb, hbb⟩ : ∃ bb, w1.heap.size = bb := ⟨_, rfl⟩
      rw [hp] at D2
      have A2 : AnyD W p bb n 0 w2 := ⟨_, _, (hbb ▸ D2.wbase h11), D.new_byt n, by simp [D.new], by simp [D.new], HF1.out.trans0 F2⟩
      rw [hp]
      have HA2 := Lib.hid A2
      clear D2 F2 hp hbb A2 h11
      dsimp only
      by_cases hbig : (131072 : Int) < (x.xs.length : Int)
      · go_wp2_with fail
        go_ret
        exact ⟨rfl, HA2.out.fr.below (Nat.le_refl _) (by simp)⟩
      · go_wp2_with fail
        go_loopw [37] (fun i wr => AnR W p bb n ls.xs.length i wr) (fun i _ => ls.xs.length - (intOf i).toNat)
        case atStart => exact ⟨0, Nat.zero_le _, rfl, HA2.out⟩
        case round =>
          obtain ⟨k, hk, rfl, hD⟩ := hrel
          have HD := Lib.hid hD
          clear hD
          by_cases hlt : k < ls.xs.length
          · obtain ⟨o, ho⟩ : ∃ o, ls.xs[k]? = some o := ⟨_, List.getElem?_eq_getElem hlt⟩
            obtain ⟨b, off, ha, hr, hbl, hp⟩ := sl_at HL.out SlV.val (fun _ => rfl) k o ho
            obtain ⟨obt, or1, ole, ocap⟩ := bytes_ok hp
            have i0 : (0 : Int) ≤ (k : Int) := by omega
            have i3 : (k : Int) < (ls.xs.length : Int) := by omega
            have c0 : wr.cell? ⟨b, off + k, none⟩ = some (.slice o.a o.xs.length o.cap) := by
              have := rangeAt_fr hr HD.out.fr (by simp) 0 _ rfl
              rwa [Nat.add_zero] at this
            rw [ha]
            have HO := Lib.hid (And.intro obt or1)
            have HAA := Lib.hid ha
            clear hr hp obt or1 ha ho
            by_cases hkl : k < ks.xs.length
            · have i5 : (k : Int) < (ks.xs.length : Int) := by omega
              by_cases h300 : (k : Int) < 300
              · obtain ⟨y, hy⟩ : ∃ y, ks.xs[k]? = some y := ⟨_, List.getElem?_eq_getElem hkl⟩
                obtain ⟨b2, off2, ha2, hr2, hbl2, hp2⟩ := sl_at HK.out (fun y => .int .i64 y) (fun _ => rfl) k y hy
                have c9 : wr.cell? ⟨b2, off2 + k, none⟩ = some (.int .i64 y) := by
                  have := rangeAt_fr hr2 HD.out.fr (by simp) 0 _ rfl
                  rwa [Nat.add_zero] at this
                rw [ha2]
                have HA3 := Lib.hid ha2
                clear hr2 ha2 hy hp2
                go_wp2_with fail
                refine (HD.out.write (by omega) y o.a o.xs.length o.cap o.xs rfl (HO.out.2.fr0 HD.out.fr) HO.out.1 _ rfl).mono ?_
                rintro e w5 ⟨⟨z, rfl⟩, D5⟩
                rw [show min k 300 + 1 = min (k + 1) 300 by omega] at D5
                have HD5 := Lib.hid D5
                clear D5
                dsimp only
                go_wp2_with fail
                exact ⟨⟨k + 1, by omega, by go_num, HD5.out⟩, by simp [intOf]; omega⟩
              · go_wp2_with fail
                have D5 := HD.out
                rw [show min k 300 = min (k + 1) 300 by omega] at D5
                have HD5 := Lib.hid D5
                clear D5
                exact ⟨⟨k + 1, by omega, by go_num, HD5.out⟩, by simp [intOf]; omega⟩
            · have i5 : ¬ (k : Int) < (ks.xs.length : Int) := by omega
              go_wp2_with fail
              have hd := HD.out
              obtain ⟨lv, d, d1, d2, d3, d4, d5⟩ := hd
              have HD5 := Lib.hid (show AnyD W p bb n (min (k + 1) 300) wr from ⟨lv, d, d1, d2, d3, by omega, d5⟩)
              clear d1 d2 d3 d4 d5
              exact ⟨⟨k + 1, by omega, by go_num, HD5.out⟩, by simp [intOf]; omega⟩
          · have i3 : ¬ (k : Int) < (ls.xs.length : Int) := by omega
            go_wp2_with fail
            refine (HD.out.open _ rfl).mono ?_
            rintro e w3 ⟨q, b, av, ms, cs, ar, mr, cr, rfl, S3⟩
            have HS3 := Lib.hid S3
            clear S3
            dsimp only
            go_wp2_with fail
            have S4 := HS3.out.fr0 ((Fr.refl [] w3).alloc (.cells #[.bool b, .slice av ms cs, .slice ar mr cr] 33))
            generalize w3.alloc (.cells #[.bool b, .slice av ms cs, .slice ar mr cr] 33) = w4 at *
            generalize w3.heap.size = g at *
            have HS4 := Lib.hid S4
            clear S4 HS3
            refine (HS4.out.app (by omega) (by omega) (by omega) x.a x.xs.length x.cap x.xs rfl (HX.out.2.rd.fr0 HS4.out.fr) HX.out.1 (by unfold maxLen; omega) _ rfl).mono ?_
            rintro e w5 ⟨⟨x5, rfl⟩, S5⟩
            have HS5 := Lib.hid S5
            clear S5 HS4
            dsimp only
            go_wp2_with fail
            refine (HS5.out.chk x.a x.xs.length x.cap x.xs rfl (HX.out.2.fr0 HS5.out.fr) HX.out.1 (by unfold maxLen; omega) _ rfl).mono ?_
            rintro e w6 ⟨⟨x6, rfl⟩, S6⟩
            have HS6 := Lib.hid S6
            clear S6 HS5
            dsimp only
            go_wp2_with fail
            refine (HS6.out.app (by omega) (by omega) (by omega) x.a x.xs.length x.cap x.xs rfl (HX.out.2.rd.fr0 HS6.out.fr) HX.out.1 (by unfold maxLen; omega) _ rfl).mono ?_
            rintro e w7 ⟨⟨x7, rfl⟩, S7⟩
            have HS7 := Lib.hid S7
            clear S7 HS6
            dsimp only
            go_wp2_with fail
            refine (HS7.out.sync _ rfl).mono ?_
            rintro e w8 ⟨⟨x8, rfl⟩, S8⟩
            have HS8 := Lib.hid S8
            clear S8 HS7
            dsimp only
            go_wp2_with fail
            refine (HS8.out.open _ rfl).mono ?_
            rintro e w9 ⟨⟨x9, rfl⟩, S9⟩
            have HS9 := Lib.hid S9
            clear S9 HS8
            dsimp only
            go_wp2_with fail
            refine (HS9.out.len _ rfl).mono ?_
            rintro e w10 ⟨⟨y1, rfl⟩, rfl⟩
            dsimp only
            have j1 : (0 : Int) ≤ (y1 : Int) := by omega
            go_wp2_with fail
            refine (HS9.out.saf _ rfl).mono ?_
            rintro e w11 ⟨⟨y2, rfl⟩, rfl⟩
            dsimp only
            have j2 : (0 : Int) ≤ (y2 : Int) := by omega
            go_wp2_with fail
            go_ret
            exact ⟨rfl, HS9.out.fr.below (Nat.le_refl _) (by simp)⟩
end Go.Fur
