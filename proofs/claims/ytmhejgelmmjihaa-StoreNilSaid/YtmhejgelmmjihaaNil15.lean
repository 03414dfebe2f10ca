/- StoreNil: the walk. -/
import Derived.Test.YtmhejgelmmjihaaSto20
import Derived.Test.YtmhejgelmmjihaaStale15
namespace Go.Fur
open Go Go.RowKit Go.Proofs
set_option linter.unusedVariables false
set_option linter.unusedSimpArgs false
/-- What was found, twice: a from below M, b from M on. -/
structure NilAt (W w : World) (gA gB M n : Nat) (vsA vrA u0 vsB vrB uB : Value) (l : List Int) : Prop where
  fA : Blk w gA 33 [.bool true, vsA, vrA]
  fB : Blk w gB 33 [.bool true, vsB, vrB]
  rA : Own w W.heap.size 24 1 vrA 1 [u0]
  sA : ∃ lA : List Int, Own w W.heap.size 5 1 vsA n (bv lA)
  uA : ∃ lU : List Int, Own w W.heap.size 5 1 u0 n (bv lU)
  rB : Own w M 24 1 vrB 1 [uB]
  sB : Own w M 5 1 vsB n (bv l)
  uB : Own w M 5 1 uB n (bv l)
  lA : ∀ k ∈ ob vsA, k < M
  lU : ∀ k ∈ ob u0, k < M
  dj : ∀ k ∈ ob vsA, k ∉ ob u0
  fr : Fr [] W w
theorem NilAt.turn {W w w' : World} {gA gB M n : Nat} {vsA vrA u0 vsB vrB uB : Value} {l : List Int} (h : NilAt W w gA gB M n vsA vrA u0 vsB vrB uB l) {S : List Nat} (f : Fr S w w') (hS : ∀ k ∈ S, k ∈ ob vsA ∨ k ∈ ob u0)
    (hA : ∃ lA : List Int, Own w' W.heap.size 5 1 vsA n (bv lA)) (hU : ∃ lU : List Int, Own w' W.heap.size 5 1 u0 n (bv lU)) : NilAt W w' gA gB M n vsA vrA u0 vsB vrB uB l := by
  obtain ⟨lA, sA⟩ := h.sA
  obtain ⟨lU, sU⟩ := h.uA
  have hb : ∀ k ∈ S, ∃ cur, Blk w k 5 cur := fun k hk => by
    rcases hS k hk with h1 | h1
    · exact sA.blkOf h1
    · exact sU.blkOf h1
  have hM : ∀ k ∈ S, k < M := fun k hk => (hS k hk).elim (h.lA k) (h.lU k)
  have hn : ∀ (k : Nat) t cs, Blk w k t cs → t ≠ 5 → k ∉ S := fun k t cs hk ht hm => by
    obtain ⟨cur, hc⟩ := hb k hm
    exact hk.ne hc ht rfl
  have hge : ∀ k ∈ S, W.heap.size ≤ k := fun k hk => (hS k hk).elim (fun h1 => (sA.lt h1).1) (fun h1 => (sU.lt h1).1)
  refine ⟨h.fA.fr f (hn _ _ _ h.fA (by decide)), h.fB.fr f (hn _ _ _ h.fB (by decide)), h.rA.fr f (fun g hg => ?_), hA, hU, h.rB.fr f (fun g hg hm => ?_), h.sB.fr f (fun g hg hm => ?_), h.uB.fr f (fun g hg hm => ?_), h.lA, h.lU, h.dj, h.fr.trans f (fun k hk hlt => by have := hge k hk; omega)⟩
  · obtain ⟨cur, hc⟩ := h.rA.blkOf hg
    exact hn _ _ _ hc (by decide)
  · have := (h.rB.lt hg).1; have := hM g hm; omega
  · have := (h.sB.lt hg).1; have := hM g hm; omega
  · have := (h.uB.lt hg).1; have := hM g hm; omega
theorem NilAt.turnA {W w w' : World} {gA gB M n : Nat} {vsA vrA u0 vsB vrB uB : Value} {l lA : List Int} (h : NilAt W w gA gB M n vsA vrA u0 vsB vrB uB l) {S : List Nat} (f : Fr S w w') (hS : ∀ k ∈ S, k ∈ ob vsA) (hA : Own w' W.heap.size 5 1 vsA n (bv lA)) : NilAt W w' gA gB M n vsA vrA u0 vsB vrB uB l := by
  obtain ⟨lU, sU⟩ := h.uA
  exact h.turn f (fun k hk => .inl (hS k hk)) ⟨_, hA⟩ ⟨_, sU.fr f (fun g hg hm => h.dj g (hS g hm) hg)⟩
theorem NilAt.turnU {W w w' : World} {gA gB M n : Nat} {vsA vrA u0 vsB vrB uB : Value} {l lU : List Int} (h : NilAt W w gA gB M n vsA vrA u0 vsB vrB uB l) {S : List Nat} (f : Fr S w w') (hS : ∀ k ∈ S, k ∈ ob u0) (hU : Own w' W.heap.size 5 1 u0 n (bv lU)) : NilAt W w' gA gB M n vsA vrA u0 vsB vrB uB l := by
  obtain ⟨lA, sA⟩ := h.sA
  exact h.turn f (fun k hk => .inr (hS k hk)) ⟨_, sA.fr f (fun g hg hm => h.dj g hg (hS g hm))⟩ ⟨_, hU⟩
theorem Sd.ne {W w : World} {N n p bb q k : Nat} {t : TypeId} {cs : List Value} {whole : Bool} {snap : List Int} {lst : List (List Int)} (h : Sd W N n p bb q whole snap lst w) (hk : Blk w k t cs) (ht : t ≠ 59) : k ∉ [p] := fun hm => by
  obtain ⟨lv, tl, d, s, h1, h2, h3, h4, h5⟩ := h
  exact hk.ne h2.da.hp ht (List.mem_singleton.1 hm)
/-- Between the rounds of the first loop. -/
def NiQ (W : World) (A : Nat → Prop) (w0 : World) (p bb q n : Nat) (l : List Int) (v : Value) (i : Value) (wr : World) : Prop :=
  ∃ (k : Nat) (l' : List Int), k ≤ n ∧ i = .int .i64 k ∧ Own wr w0.heap.size 5 1 v n (bv l') ∧ Sd2 A W 2 1000 p bb q true l [l] wr
def NiR (W : World) (gA gB M n : Nat) (vsA vrA u0 vsB vrB uB : Value) (l : List Int) (i : Value) (wr : World) : Prop := ∃ k : Nat, k ≤ n ∧ i = .int .i64 k ∧ NilAt W wr gA gB M n vsA vrA u0 vsB vrB uB l
set_option maxRecDepth 100000 in
set_option maxHeartbeats 8000000 in
theorem StoreNil_walk (W : World) (x : SlV Int) (hx : rBytes.ok W x) :
    Calls Try.prog 4 #[x.val] W fun e w' => e = .returned (.bool true) ∧ Below W.heap.size W w' := by
  simp only [SlV.val]
  obtain ⟨pbt, pr, ple, pcap⟩ := bytes_ok hx
  have HX := Lib.hid (And.intro pbt pr.own)
  clear hx pbt pr
  go_enter Try.func4, Try.ntmps4
  go_wp2_with fail
  refine (awake_calls W).mono ?_
  rintro e w1 ⟨rfl, F1⟩
  have HF1 := Lib.hid F1
  clear F1
  dsimp only
  go_wp2_with fail
  refine (openN_calls w1).mono ?_
  rintro e w2 ⟨rfl, F2⟩
  have HF2 := Lib.hid (HF1.out.trans0 F2)
  clear F2 HF1
  dsimp only
  go_upto_region 5 with fail
  have F3 := HF2.out.alloc (.cells #[.bool false, .slice none 0 0, .slice none 0 0] 33)
  have B3 : Blk (w2.alloc (.cells #[.bool false, .slice none 0 0, .slice none 0 0] 33)) w2.heap.size 33 [.bool false, .slice none 0 0, .slice none 0 0] := Blk.new w2 33 _
  generalize w2.alloc (.cells #[.bool false, .slice none 0 0, .slice none 0 0] 33) = w3 at *
  generalize w2.heap.size = g3 at *
  have c3 : w3.cell? ⟨g3, 2, none⟩ = some (.slice none 0 0) := B3.cellAt rfl
  have HF3 := Lib.hid F3
  clear F3 B3 HF2
  go_wp2_with fail
  refine (appendN_calls w3 _).mono ?_
  rintro e w4 ⟨rfl, rfl⟩
  dsimp only
  go_wp2_with fail
  refine (syncN_calls w3).mono ?_
  rintro e w4 ⟨rfl, rfl⟩
  dsimp only
  go_wp2_with fail
  refine (checkpointN_calls w3 _).mono ?_
  rintro e w4 ⟨rfl, rfl⟩
  dsimp only
  go_wp2_with fail
  refine (lenN_calls w3).mono ?_
  rintro e w4 ⟨rfl, rfl⟩
  dsimp only
  go_wp2_with fail
  refine (safeN_calls w3).mono ?_
  rintro e w4 ⟨rfl, rfl⟩
  dsimp only
  clear c3
  by_cases hbig : (1000 : Int) < (x.xs.length : Int)
  · go_wp2_with fail
    go_ret
    exact ⟨rfl, HF3.out.below (Nat.le_refl _) (by simp)⟩
  go_wp2_with fail
  refine (new_calls w3 1000 (by omega) (by omega)).mono ?_
  rintro e w5 ⟨rfl, D5, F5⟩
  obtain ⟨p, hp⟩ : ∃ p, w3.heap.size + 1 = p := ⟨_, rfl⟩
  have h33 := HF3.out.size
  obtain ⟨bb, hbb⟩ : ∃ bb, w3.heap.size = bb := ⟨_, rfl⟩
  rw [hp] at D5 ⊢
  have HD5 := Lib.hid (show DiskAt w5 W.heap.size p bb (.slice none 0 0) (D.new 1000) from hbb ▸ D5.wbase h33)
  have HF5 := Lib.hid (HF3.out.trans0 F5)
  clear D5 F5 hp hbb h33 HF3
  dsimp only
  go_wp2_with fail
  refine (Sd.new HF5.out HD5.out (by omega) (by omega)).mono ?_
  rintro e w6 ⟨q, av, cs, ar, cr, rfl, S6, F6⟩
  have HS6 := Lib.hid S6
  clear S6 F6 HD5 HF5
  dsimp only
  go_upto_region 11 with fail
  have F7 := (Fr.refl [] w6).alloc (.cells #[.bool false, .slice av 0 cs, .slice ar 0 cr] 33)
  generalize w6.alloc (.cells #[.bool false, .slice av 0 cs, .slice ar 0 cr] 33) = w7 at *
  generalize w6.heap.size = g7 at *
  have HS7 := Lib.hid (HS6.out.fr0 F7)
  clear F7 HS6
  go_wp2_with fail
  refine (twin_calls w7 x.a x.cap x.xs.length x.xs rfl (by omega) (HX.out.2.rd.fr0 HS7.out.fr)).mono ?_
  rintro e w8 ⟨v8, rfl, O8, F8⟩
  obtain ⟨qa, qc, rfl, hq1, hq2, hq3⟩ := O8.form
  have S8 := HS7.out.apart F8
  have HO8 := Lib.hid O8
  have HA8 := Lib.hid (S8.less (B := fun k => k ∈ ob (.slice qa x.xs.length qc)) (fun k hk => (O8.lt hk).1))
  have HL8 := Lib.hid (fun k (hk : k ∈ ob (.slice qa x.xs.length qc)) => (O8.lt hk).2)
  clear O8 F8 S8 hq3
  dsimp only
  go_wp2_with fail
  refine (HA8.out.check HL8.out (by omega) (by omega) (by omega) qa x.xs.length qc x.xs rfl (HO8.out.rdS (X := fun k => ¬ k ∈ ob (.slice qa x.xs.length qc)) (fun k hk hn => hn hk)).1 HX.out.1 (by omega) (by omega)).mono ?_
  rintro e w9 ⟨rfl, S9, st9⟩
  have HS9 := Lib.hid S9
  have HL9 := Lib.hid (fun k hk => Nat.lt_of_lt_of_le (HL8.out k hk) st9.size)
  have HO9 := Lib.hid (HO8.out.stp st9 (fun k hk hn => hn hk))
  clear S9 st9 HL8 HO8 HA8
  dsimp only
  go_wp2_with fail
  refine (HS9.out.append HL9.out (by omega) (by omega) (by omega) qa x.xs.length qc x.xs rfl (HO9.out.rdS (X := fun _ => False) (fun k hk hn => hn)).1.rd HX.out.1 (by omega) (by simp [encs]; omega)).mono ?_
  rintro e w10 ⟨rfl, S10, st10⟩
  have HS10 := Lib.hid S10
  have HO10 := Lib.hid (HO9.out.stp st10 (fun k hk hn => hn hk))
  clear S10 st10 HL9 HO9 HS9
  dsimp only
  go_wp2_with fail
  go_loopw [95] (fun i wr => NiQ W (fun k => k ∈ ob (.slice qa x.xs.length qc)) w7 p bb q x.xs.length x.xs (.slice qa x.xs.length qc) i wr) (fun i _ => x.xs.length - (intOf i).toNat)
  case atStart => exact ⟨0, _, Nat.zero_le _, rfl, HO10.out, HS10.out⟩
  case round =>
    obtain ⟨k, l', hk, rfl, hO, hS⟩ := hrel
    have HS := Lib.hid hS
    by_cases hlt : k < x.xs.length
    · obtain ⟨g1, cap1, cur1, x1, hv1, hg1, hb1', hn1, hx1, hc1, hst1⟩ := hO.byteAt k hlt
      have hge : ∀ k ∈ ob (.slice qa x.xs.length qc), w7.heap.size ≤ k := fun k hk => (hO.lt hk).1
      simp only [Value.slice.injEq] at hv1
      obtain ⟨ha1, _, hc1'⟩ := hv1
      have i0 : (0 : Int) ≤ (k : Int) := by omega
      have i1 : (k : Int) < (x.xs.length : Int) := by omega
      have HA1 := Lib.hid ha1
      have HB1 := Lib.hid hb1'
      have HST := Lib.hid hst1
      have HN1 := Lib.hid hn1
      have HGE := Lib.hid hge
      clear hO hS hb1' hst1 hn1 hc1' ha1 hx1 hge
      rw [HA1.out]
      go_wp2_with (refine wpList_store1 rfl 5 _ _ rfl g1 k _ (by rfl) (by rfl) rfl 5 cur1 HB1.out (by have := HN1.out; omega) (by kernel_rfl) rfl ?_; intro w11 B11 F11 S11)
      have hg1 : g1 ∈ ob (.slice qa x.xs.length qc) := by rw [HA1.out]; simp
      have hw7 : W.heap.size ≤ w7.heap.size := HS7.out.fr.size
      have R7 : NiQ W (fun k => k ∈ ob (.slice qa x.xs.length qc)) w7 p bb q x.xs.length x.xs (.slice qa x.xs.length qc) (.int .i64 (k + 1 : Nat)) w11 := by
        refine ⟨k + 1, _, by omega, rfl, HST.out w11 _ B11, HS.out.step F11 (fun j hj => ?_) (fun j hj => ?_)⟩
        · rw [List.mem_singleton.1 hj]; exact hg1
        · rw [List.mem_singleton.1 hj]; have := HGE.out g1 hg1; omega
      rw [HA1.out] at R7
      have HR7 := Lib.hid R7
      clear R7 B11 F11 S11 hg1 hw7
      go_roundw
      case rel => exact HR7.out
      case measure => simp [intOf]; omega
    · have i1 : ¬ ((k : Int) < (x.xs.length : Int)) := by omega
      clear hS hO
      have HY := Lib.hid (show Byt x.xs ∧ ∀ y ∈ [x.xs], Byt y from ⟨HX.out.1, fun y hy => by rw [List.mem_singleton.1 hy]; exact HX.out.1⟩)
      go_wp2_with fail
      refine (HS.out.sd.again (by omega) HY.out.1 HY.out.2).mono ?_
      rintro e w12 ⟨q12, vsA, vrA, tl12, m1, m2, d12, o12, rfl, OA, os, ol, S12, F12, hp1, hp2⟩
      obtain ⟨ur, hur, hul, hua⟩ := OA.rs
      have hsA := OA.sn
      rw [os] at hsA
      rw [ol] at hur hul hua
      obtain ⟨u0, rfl⟩ : ∃ u, ur = [u] := by
        match ur, hul with
        | [u], _ => exact ⟨u, rfl⟩
      obtain ⟨hu0, hu1⟩ := hua 0 u0 x.xs rfl rfl
      have hwr := HS.out.fr.size
      have hl1 := OA.l1
      have hsl := OA.sl
      have hN : (Own w12 W.heap.size 24 1 vrA 1 [u0] ∧ Own w12 W.heap.size 5 1 vsA x.xs.length (bv x.xs) ∧ Own w12 W.heap.size 5 1 u0 x.xs.length (bv x.xs)) ∧ (∀ k ∈ ob vsA, k ∉ ob u0) := by
        refine ⟨⟨hur.base (by omega), hsA.base hwr, hu0.base (by omega)⟩, fun k hk hm => ?_⟩
        have := (hu0.lt hm).1
        have := hsl k hk
        omega
      obtain ⟨asA, csA, hvsA, _, _, _⟩ := hsA.form
      obtain ⟨gr, capr, curr, hvrA, _, _, _, _, _, _⟩ := hur.blk (by simp)
      simp only [List.length_singleton] at hvrA
      subst hvsA hvrA
      have HN := Lib.hid hN
      have HS12 := Lib.hid S12
      clear OA S12 F12 hp1 hp2 hur hul hua hsA hu0 hu1 hwr hl1 hsl hN HS os ol
      dsimp only
      go_upto_region 20 with fail
      have F13 := (Fr.refl [] w12).alloc (.cells #[.bool true, .slice asA x.xs.length csA, .slice (some ⟨gr, 0, none⟩) 1 capr] 33)
      have B13 : Blk (w12.alloc (.cells #[.bool true, .slice asA x.xs.length csA, .slice (some ⟨gr, 0, none⟩) 1 capr] 33)) w12.heap.size 33 [.bool true, .slice asA x.xs.length csA, .slice (some ⟨gr, 0, none⟩) 1 capr] := Blk.new w12 33 _
      generalize w12.alloc (.cells #[.bool true, .slice asA x.xs.length csA, .slice (some ⟨gr, 0, none⟩) 1 capr] 33) = w13 at *
      have hgA := B13.lt
      generalize w12.heap.size = gA at *
      have HS13 := Lib.hid (HS12.out.fr0 F13)
      have HN13 := Lib.hid (show Own w13 W.heap.size 24 1 (.slice (some ⟨gr, 0, none⟩) 1 capr) 1 [u0] ∧ Own w13 W.heap.size 5 1 (.slice asA x.xs.length csA) x.xs.length (bv x.xs) ∧ Own w13 W.heap.size 5 1 u0 x.xs.length (bv x.xs) from ⟨HN.out.1.1.fr0 F13, HN.out.1.2.1.fr0 F13, HN.out.1.2.2.fr0 F13⟩)
      have HB13 := Lib.hid B13
      clear F13 B13 HS12
      go_wp2_with fail
      refine (HS13.out.again (by omega) HY.out.1 HY.out.2).mono ?_
      rintro e w14 ⟨q14, vsB, vrB, tl14, n1, n2, d14, o14, rfl, OB, os, ol, S14, F14, hp1, hp2⟩
      obtain ⟨ur, hur, hul, hua⟩ := OB.rs
      have hsB := OB.sn
      rw [os] at hsB
      rw [ol] at hur hul hua
      obtain ⟨uB, rfl⟩ : ∃ u, ur = [u] := by
        match ur, hul with
        | [u], _ => exact ⟨u, rfl⟩
      obtain ⟨huB, _⟩ := hua 0 uB x.xs rfl rfl
      have hl1 := OB.l1
      obtain ⟨asB, csB, hvsB, _, _, _⟩ := hsB.form
      obtain ⟨gq, capq, curq, hvrB, _, _, _, _, _, _⟩ := hur.blk (by simp)
      simp only [List.length_singleton] at hvrB
      subst hvsB hvrB
      have hn : ∀ {n size : Nat} {e : TypeId} {v : Value} {cs : List Value}, Own w13 W.heap.size e size v n cs → e ≠ 59 → ∀ g ∈ ob v, g ∉ [p] := fun ho he g hg => by
        obtain ⟨cur, hc⟩ := ho.blkOf hg
        exact HS13.out.ne hc he
      have HZ := Lib.hid (show (Own w14 w13.heap.size 24 1 (.slice (some ⟨gq, 0, none⟩) 1 capq) 1 [uB] ∧ Own w14 w13.heap.size 5 1 (.slice asB x.xs.length csB) x.xs.length (bv x.xs) ∧ Own w14 w13.heap.size 5 1 uB x.xs.length (bv x.xs)) ∧ (Own w14 W.heap.size 24 1 (.slice (some ⟨gr, 0, none⟩) 1 capr) 1 [u0] ∧ Own w14 W.heap.size 5 1 (.slice asA x.xs.length csA) x.xs.length (bv x.xs) ∧ Own w14 W.heap.size 5 1 u0 x.xs.length (bv x.xs)) ∧ Blk w14 gA 33 [.bool true, .slice asA x.xs.length csA, .slice (some ⟨gr, 0, none⟩) 1 capr] from
        ⟨⟨hur.base hl1, hsB, huB.base hl1⟩, ⟨HN13.out.1.fr F14 (hn HN13.out.1 (by decide)), HN13.out.2.1.fr F14 (hn HN13.out.2.1 (by decide)), HN13.out.2.2.fr F14 (hn HN13.out.2.2 (by decide))⟩, HB13.out.fr F14 (HS13.out.ne HB13.out (by decide))⟩)
      have HM := Lib.hid (show (∀ k ∈ ob (.slice asA x.xs.length csA), k < w13.heap.size) ∧ (∀ k ∈ ob u0, k < w13.heap.size) from ⟨fun k hk => (HN13.out.2.1.lt hk).2, fun k hk => (HN13.out.2.2.lt hk).2⟩)
      generalize w13.heap.size = M at *
      have HF14 := Lib.hid S14.fr
      clear OB S14 F14 hp1 hp2 hur hul hua hsB huB hl1 HS13 HN13 HB13 os ol hn
      dsimp only
      go_upto_region 21 with fail
      have F15 := (Fr.refl [] w14).alloc (.cells #[.bool true, .slice asB x.xs.length csB, .slice (some ⟨gq, 0, none⟩) 1 capq] 33)
      have B15 : Blk (w14.alloc (.cells #[.bool true, .slice asB x.xs.length csB, .slice (some ⟨gq, 0, none⟩) 1 capq] 33)) w14.heap.size 33 [.bool true, .slice asB x.xs.length csB, .slice (some ⟨gq, 0, none⟩) 1 capq] := Blk.new w14 33 _
      generalize w14.alloc (.cells #[.bool true, .slice asB x.xs.length csB, .slice (some ⟨gq, 0, none⟩) 1 capq] 33) = w15 at *
      generalize w14.heap.size = gB at *
      have HT := Lib.hid (show NilAt W w15 gA gB M x.xs.length (.slice asA x.xs.length csA) (.slice (some ⟨gr, 0, none⟩) 1 capr) u0 (.slice asB x.xs.length csB) (.slice (some ⟨gq, 0, none⟩) 1 capq) uB x.xs from
        ⟨HZ.out.2.2.fr F15 (by simp), B15, HZ.out.2.1.1.fr0 F15, ⟨_, HZ.out.2.1.2.1.fr0 F15⟩, ⟨_, HZ.out.2.1.2.2.fr0 F15⟩, HZ.out.1.1.fr0 F15, HZ.out.1.2.1.fr0 F15, HZ.out.1.2.2.fr0 F15, HM.out.1, HM.out.2, HN.out.2, HF14.out.trans0 F15⟩)
      clear F15 B15 HZ HM HF14 HN
      have a2 : w15.cell? ⟨gA, 2, none⟩ = some (.slice (some ⟨gr, 0, none⟩) 1 capr) := HT.out.fA.cellAt rfl
      have b2 : w15.cell? ⟨gB, 2, none⟩ = some (.slice (some ⟨gq, 0, none⟩) 1 capq) := HT.out.fB.cellAt rfl
      have a1 : w15.cell? ⟨gA, 1, none⟩ = some (.slice asA x.xs.length csA) := HT.out.fA.cellAt rfl
      go_wp2_with fail
      go_loopw [130] (fun i wr => NiR W gA gB M x.xs.length (.slice asA x.xs.length csA) (.slice (some ⟨gr, 0, none⟩) 1 capr) u0 (.slice asB x.xs.length csB) (.slice (some ⟨gq, 0, none⟩) 1 capq) uB x.xs i wr) (fun i _ => x.xs.length - (intOf i).toNat)
      case atStart => exact ⟨0, Nat.zero_le _, rfl, HT.out⟩
      case round =>
        obtain ⟨k, hk, rfl, hR⟩ := hrel
        have HR := Lib.hid hR
        clear a1 a2 b2
        by_cases hlt : k < x.xs.length
        · obtain ⟨lA, hO⟩ := hR.sA
          obtain ⟨g1, cap1, cur1, x1, hv1, hg1, hb1', hn1, hx1, hc1, hst1⟩ := hO.byteAt k hlt
          simp only [Value.slice.injEq] at hv1
          obtain ⟨ha1, _, hc1'⟩ := hv1
          subst ha1 hc1'
          have i0 : (0 : Int) ≤ (k : Int) := by omega
          have i1 : (k : Int) < (x.xs.length : Int) := by omega
          have a1 : wr.cell? ⟨gA, 1, none⟩ = some (.slice (some ⟨g1, 0, none⟩) x.xs.length csA) := HR.out.fA.cellAt rfl
          have HB1 := Lib.hid hb1'
          have HST := Lib.hid hst1
          have HN1 := Lib.hid hn1
          clear hO hR hb1' hst1 hn1 hx1
          go_wp2_with (refine wpList_store1 rfl 5 _ _ rfl g1 k _ (by rfl) (by rfl) rfl 5 cur1 HB1.out (by have := HN1.out; omega) (by kernel_rfl) rfl ?_; intro w16 B16 F16 S16)
          have R7 := Lib.hid (HR.out.turnA F16 (fun j hj => by rw [List.mem_singleton.1 hj]; simp) (HST.out w16 _ B16))
          clear B16 F16 S16 a1 hc1
          go_roundw
          case rel => exact ⟨k + 1, by omega, by go_num, R7.out⟩
          case measure => simp [intOf]; omega
        · have i1 : ¬ ((k : Int) < (x.xs.length : Int)) := by omega
          clear hR
          obtain ⟨lU, hU⟩ := HR.out.uA
          obtain ⟨au, cu, hvu, _, _, _⟩ := hU.form
          subst hvu
          have c0A : ∀ W', NilAt W W' gA gB M x.xs.length (.slice asA x.xs.length csA) (.slice (some ⟨gr, 0, none⟩) 1 capr) (.slice au x.xs.length cu) (.slice asB x.xs.length csB) (.slice (some ⟨gq, 0, none⟩) 1 capq) uB x.xs → W'.cell? ⟨gA, 2, none⟩ = some (.slice (some ⟨gr, 0, none⟩) 1 capr) ∧ W'.cell? ⟨gr, 0, none⟩ = some (.slice au x.xs.length cu) := fun W' h => by
            refine ⟨h.fA.cellAt rfl, ?_⟩
            obtain ⟨g2, cap2, cur2, y2, hv2, _, _, _, hy2, hc2, _⟩ := h.rA.cellAt 0 (by omega)
            simp only [Value.slice.injEq, Option.some.injEq, Addr.mk.injEq] at hv2
            obtain ⟨⟨rfl, _⟩, _⟩ := hv2
            simp only [List.getElem?_cons_zero, Option.some.injEq] at hy2
            rw [hc2, hy2]
          have HC0 := Lib.hid c0A
          obtain ⟨a2, a3⟩ := c0A wr HR.out
          clear c0A hU
          go_wp2_with fail
          go_loopw [146] (fun i wr => NiR W gA gB M x.xs.length (.slice asA x.xs.length csA) (.slice (some ⟨gr, 0, none⟩) 1 capr) (.slice au x.xs.length cu) (.slice asB x.xs.length csB) (.slice (some ⟨gq, 0, none⟩) 1 capq) uB x.xs i wr) (fun i _ => x.xs.length - (intOf i).toNat)
          case atStart => exact ⟨0, Nat.zero_le _, rfl, HR.out⟩
          case round =>
            clear a2 a3 HR
            obtain ⟨k2, hk2, rfl, hR2⟩ := hrel
            have HR2 := Lib.hid hR2
            by_cases hlt2 : k2 < x.xs.length
            · obtain ⟨lU, hO⟩ := hR2.uA
              obtain ⟨g1, cap1, cur1, x1, hv1, hg1, hb1', hn1, hx1, hc1, hst1⟩ := hO.byteAt k2 hlt2
              simp only [Value.slice.injEq] at hv1
              obtain ⟨ha1, _, hc1'⟩ := hv1
              subst ha1 hc1'
              have i2 : (0 : Int) ≤ (k2 : Int) := by omega
              have i3 : (k2 : Int) < (x.xs.length : Int) := by omega
              obtain ⟨a2, a3⟩ := HC0.out _ hR2
              have HB1 := Lib.hid hb1'
              have HST := Lib.hid hst1
              have HN1 := Lib.hid hn1
              clear hO hR2 hb1' hst1 hn1 hx1
              go_wp2_with (refine wpList_store1 rfl 5 _ _ rfl g1 k2 _ (by rfl) (by rfl) rfl 5 cur1 HB1.out (by have := HN1.out; omega) (by kernel_rfl) rfl ?_; intro w16 B16 F16 S16)
              have R7 := Lib.hid (HR2.out.turnU F16 (fun j hj => by rw [List.mem_singleton.1 hj]; simp) (HST.out w16 _ B16))
              clear B16 F16 S16 a2 a3 hc1
              go_roundw
              case rel => exact ⟨k2 + 1, by omega, by go_num, R7.out⟩
              case measure => simp [intOf]; omega
            · have i3 : ¬ ((k2 : Int) < (x.xs.length : Int)) := by omega
              clear hR2
              obtain ⟨bu, cb, hvb, _, _, hrb⟩ := HR2.out.uB.form
              subst hvb
              have b1 : wr.cell? ⟨gB, 1, none⟩ = some (.slice asB x.xs.length csB) := HR2.out.fB.cellAt rfl
              have b2 : wr.cell? ⟨gB, 2, none⟩ = some (.slice (some ⟨gq, 0, none⟩) 1 capq) := HR2.out.fB.cellAt rfl
              have b3 : wr.cell? ⟨gq, 0, none⟩ = some (.slice bu x.xs.length cb) := by
                obtain ⟨g2, cap2, cur2, y2, hv2, _, _, _, hy2, hc2, _⟩ := HR2.out.rB.cellAt 0 (by omega)
                simp only [Value.slice.injEq, Option.some.injEq, Addr.mk.injEq] at hv2
                obtain ⟨⟨rfl, _⟩, _⟩ := hv2
                simp only [List.getElem?_cons_zero, Option.some.injEq] at hy2
                rw [hc2, hy2]
              have HRB := Lib.hid hrb
              clear hrb
              go_wp2_with fail
              refine (bytes_calls wr asB x.a csB x.cap x.xs.length x.xs.length x.xs x.xs rfl rfl HX.out.1 HX.out.1 (HR2.out.sB.rdS (X := fun _ => False) (fun _ _ h => h)).1.rd (HX.out.2.rd.fr0 HR2.out.fr)).mono ?_
              rintro e w17 ⟨rfl, rfl⟩
              rw [show decide (x.xs = x.xs) = true from by simp]
              dsimp only
              go_wp2_with fail
              refine (bytes_calls wr bu x.a cb x.cap x.xs.length x.xs.length x.xs x.xs rfl rfl HX.out.1 HX.out.1 HRB.out (HX.out.2.rd.fr0 HR2.out.fr)).mono ?_
              rintro e w17 ⟨rfl, rfl⟩
              rw [show decide (x.xs = x.xs) = true from by simp]
              dsimp only
              go_wp2_with fail
              go_ret
              exact ⟨rfl, HR2.out.fr.below (Nat.le_refl _) (by simp)⟩
end Go.Fur
