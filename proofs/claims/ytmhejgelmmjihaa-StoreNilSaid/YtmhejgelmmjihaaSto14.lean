/- A desk: a store, and what it must hold; one more record: contract of the desk's append. -/
import Derived.Test.YtmhejgelmmjihaaSto13
namespace Go.Fur
open Go Go.RowKit Go.Proofs
set_option linter.unusedVariables false
set_option linter.unusedSimpArgs false
/-- What records take. -/
def tookL (snap : List Int) (lst : List (List Int)) : Nat := snap.length + (lst.map fun p => p.length + 32).sum
theorem tookL_ge (snap : List Int) : ∀ lst : List (List Int), (snap ++ encs lst).length ≤ tookL snap lst
  | [] => by simp [encs, tookL]
  | p :: lst => by
    have ih := tookL_ge snap lst
    rw [encs_cons]
    simp only [tookL, List.map_cons, List.sum_cons, List.length_append, le4_length] at ih ⊢
    omega
theorem tookL_sum : ∀ lst : List (List Int), (∀ p ∈ lst, p.length ≤ 65536) → (lst.map fun p => p.length + 32).sum ≤ lst.length * 65568
  | [], _ => by simp
  | x :: r, h => by
    have h1 := h x (by simp)
    have h2 := tookL_sum r (fun y hy => h y (by simp [hy]))
    simp only [List.map_cons, List.sum_cons, List.length_cons]
    omega
theorem tookL_le {snap : List Int} {lst : List (List Int)} (h : ∀ p ∈ lst, p.length ≤ 65536) (hl : lst.length ≤ 1001) (hs : snap.length ≤ 1000000) : tookL snap lst ≤ 1000000000 := by
  have h1 := tookL_sum lst h
  have h2 : lst.length * 65568 ≤ 1001 * 65568 := Nat.mul_le_mul_right _ hl
  unfold tookL
  omega
def dkX (K p bb q : Nat) (lv tl : Value) (k : Nat) : Prop := k = K ∨ stoX p bb q lv tl k
/-- A desk in the block K, behind N calls. -/
structure DkAt (W w : World) (K N p bb q : Nat) (lv tl vs : Value) (al : Option Addr) (cl : Nat) (us : List Value) (d : D) (s : St) (whole : Bool) (snap : List Int) (lst : List (List Int)) : Prop where
  fr : Fr [] W w
  sto : StoAt w W.heap.size p bb q lv tl d s
  hk : Blk w K 44 (dskC p q (16 * d.now.length - 1024) whole vs (.slice al lst.length cl) s.safe (tookL snap lst))
  kb : W.heap.size ≤ K
  sn : Bs w (dkX K p bb q lv tl) vs snap
  ys : Byt snap
  li : RdA w (dkX K p bb q lv tl) al us
  cap : lst.length ≤ cl ∧ cl ≤ maxLen
  ls : AllB w (dkX K p bb q lv tl) us lst
  yl : ∀ p ∈ lst, Byt p
  dk : Desk d s whole snap lst
  few : s.gen ≤ N + 1 ∧ s.life ≤ N + 1 ∧ d.loose.length ≤ N * 3000 ∧ lst.length ≤ N
  blk : 80 ≤ d.now.length ∧ d.now.length ≤ 5000
  sl : snap.length ≤ 1000000
def Dk (W : World) (K N : Nat) (w : World) : Prop := ∃ p bb q lv tl vs al cl us d s whole snap lst, DkAt W w K N p bb q lv tl vs al cl us d s whole snap lst
theorem stoX_ge {w : World} {base p bb q : Nat} {lv tl : Value} {d : D} {s : St} (h : StoAt w base p bb q lv tl d s) {k : Nat} (hk : stoX p bb q lv tl k) : base ≤ k ∧ k < w.heap.size := by
  rcases hk with hk | hk | hk
  · subst hk
    exact ⟨h.bq, h.hq.lt⟩
  · exact ⟨h.da.ge k hk, h.da.lt k hk⟩
  · exact h.ht.lt hk
theorem DkAt.kn {W w : World} {K N p bb q : Nat} {lv tl vs : Value} {al : Option Addr} {cl : Nat} {us : List Value} {d : D} {s : St} {whole : Bool} {snap : List Int} {lst : List (List Int)} (h : DkAt W w K N p bb q lv tl vs al cl us d s whole snap lst) : ¬ stoX p bb q lv tl K := fun hk => by
  rcases hk with hk | hk | hk
  · exact h.hk.ne h.sto.hq (by decide) hk
  · simp only [List.mem_cons] at hk
    rcases hk with hk | hk | hk
    · exact h.hk.ne h.sto.da.hp (by decide) hk
    · exact h.hk.ne h.sto.da.hb (by decide) hk
    · obtain ⟨cur, hc⟩ := h.sto.da.hl.blkOf hk
      exact h.hk.ne hc (by decide) rfl
  · obtain ⟨cur, hc⟩ := h.sto.ht.blkOf hk
    exact h.hk.ne hc (by decide) rfl
theorem Bs.frX {w w' : World} {X X' : Nat → Prop} {v : Value} {l : List Int} (h : Bs w X v l) (f : FrX (fun k => X k ∨ w.heap.size ≤ k) w w') (hX : ∀ k, X' k → X k ∨ w.heap.size ≤ k) : Bs w' X' v l := by
  obtain ⟨T, f, hT⟩ := f
  exact h.step f hT hX
theorem RdA.frX {w w' : World} {X X' : Nat → Prop} {a : Option Addr} {cs : List Value} (h : RdA w X a cs) (f : FrX (fun k => X k ∨ w.heap.size ≤ k) w w') (hX : ∀ k, X' k → X k ∨ w.heap.size ≤ k) : RdA w' X' a cs := by
  obtain ⟨T, f, hT⟩ := f
  exact h.step f hT hX
theorem AllB.frX {w w' : World} {X X' : Nat → Prop} {vs : List Value} {ls : List (List Int)} (h : AllB w X vs ls) (f : FrX (fun k => X k ∨ w.heap.size ≤ k) w w') (hX : ∀ k, X' k → X k ∨ w.heap.size ≤ k) : AllB w' X' vs ls := by
  obtain ⟨T, f, hT⟩ := f
  exact h.step f hT hX
theorem Stp.more {X Y : Nat → Prop} {w w' : World} (h : Stp X w w') (hXY : ∀ k, X k → Y k) : Stp Y w w' := by
  obtain ⟨T, f, hT⟩ := h
  exact ⟨T, f, fun k hk => (hT k hk).imp (hXY k) id⟩
theorem Blk.stp {X : Nat → Prop} {w w' : World} {g : Nat} {t : TypeId} {cs : List Value} (h : Blk w g t cs) (f : Stp X w w') (hg : ¬ X g) : Blk w' g t cs := by
  refine h.frX f (fun hh => ?_)
  rcases hh with hh | hh
  · exact hg hh
  · have := h.lt
    omega
theorem Stp.base {X : Nat → Prop} {W w w' : World} (f : Fr [] W w) (h : Stp X w w') (hX : ∀ k, X k → W.heap.size ≤ k) : Fr [] W w' := by
  obtain ⟨T, g, hT⟩ := h
  refine f.trans g (fun k hk hlt => ?_)
  rcases hT k hk with h1 | h1
  · have := hX k h1
    omega
  · have := f.size
    omega
/-- The store of a desk is turned. -/
theorem DkAt.turn {W w w' : World} {K N p bb q : Nat} {lv tl vs lv' tl' : Value} {al : Option Addr} {cl : Nat} {us : List Value} {d d' : D} {s s' : St} {whole : Bool} {snap : List Int} {lst : List (List Int)} (h : DkAt W w K N p bb q lv tl vs al cl us d s whole snap lst)
    (hs : StoAt w' W.heap.size p bb q lv' tl' d' s') (f : Stp (stoX p bb q lv tl) w w') (hX : ∀ k, stoX p bb q lv' tl' k → stoX p bb q lv tl k ∨ w.heap.size ≤ k) :
    Fr [] W w' ∧ Blk w' K 44 (dskC p q (16 * d.now.length - 1024) whole vs (.slice al lst.length cl) s.safe (tookL snap lst)) ∧ Bs w' (dkX K p bb q lv' tl') vs snap ∧ RdA w' (dkX K p bb q lv' tl') al us ∧ AllB w' (dkX K p bb q lv' tl') us lst ∧ (∀ k, dkX K p bb q lv' tl' k → dkX K p bb q lv tl k ∨ w.heap.size ≤ k) := by
  have f2 : Stp (dkX K p bb q lv tl) w w' := f.more (fun k hk => .inr hk)
  have hX2 : ∀ k, dkX K p bb q lv' tl' k → dkX K p bb q lv tl k ∨ w.heap.size ≤ k := fun k hk => by
    rcases hk with hk | hk
    · exact .inl (.inl hk)
    · exact (hX k hk).imp .inr id
  exact ⟨f.base h.fr (fun k hk => (stoX_ge h.sto hk).1), h.hk.stp f h.kn, h.sn.frX f2 hX2, h.li.frX f2 hX2, h.ls.frX f2 hX2, hX2⟩
theorem bss_build0 : ∀ W : World, (Instr.buildSlice 23 0 #[]).run Try.prog W = .ok (.slice (some ⟨W.heap.size, 0, none⟩) 0 0) (W.alloc (.cells #[] 24)) := fun W => by kernel_rfl
set_option maxRecDepth 100000 in
set_option maxHeartbeats 8000000 in
theorem dapp_calls {W w : World} {K N p bb q : Nat} {lv tl vs : Value} {al : Option Addr} {cl : Nat} {us : List Value} {d : D} {s : St} {whole : Bool} {snap : List Int} {lst : List (List Int)} (h : DkAt W w K N p bb q lv tl vs al cl us d s whole snap lst) (hN : N ≤ 1000) (a : Option Addr) (m c : Nat) (l : List Int) (hm : l.length = m) (hr : RdA w (dkX K p bb q lv tl) a (bv l)) (hl : Byt l) (hmc : m ≤ maxLen) :
    Calls Try.prog 20 #[.pointer (some ⟨K, 0, none⟩), .slice a m c] w fun e w' => e = .returned (.bool true) ∧ Dk W K (N + 1) w' := by
  have hfw := h.few
  have hbk := h.blk
  have hlen := h.dk.pos.len
  have hsh := h.dk.short
  have hle := h.dk.pos.le
  have hcnt := h.dk.cnt
  have htk := tookL_ge snap lst
  have hhf := halfP_le h.sto.da.wf
  have hbs : W.heap.size ≤ w.heap.size := h.fr.size
  have HA := Lib.hid (append_calls h.sto hbs a m c l hm hr.rd hl hmc hsh (by omega) (by omega) (by omega))
  have c1 : w.cell? ⟨K, 1, none⟩ = some (.pointer (some ⟨q, 0, none⟩)) := h.hk.cellAt rfl
  have HH := Lib.hid h
  have HR := Lib.hid hr
  have HL := Lib.hid hl
  have HM := Lib.hid hm
  have hm63 : m ≤ 9223372036854775807 := by unfold maxLen at hmc; exact hmc
  by_cases hbig : 65536 < m
  · have he : appS d s l = (3, d, s) := by unfold appS; rw [if_pos (by omega)]
    have hb1 : (65536 : Int) < (m : Int) := by omega
    rw [he] at HA
    clear h hr hl hm he hlen hle hcnt htk hsh hfw
    go_enter Try.func20, Try.ntmps20
    go_wp2_with fail
    refine HA.out.mono ?_
    rintro e w1 ⟨lv1, tl1, rfl, S1, st1, X1⟩
    obtain ⟨t1, t2, t3, t4, t5, _⟩ := HH.out.turn S1 st1 X1
    have HD := Lib.hid (show Dk W K (N + 1) w1 from ⟨p, bb, q, lv1, tl1, vs, al, cl, us, d, s, whole, snap, lst, t1, S1, t2, HH.out.kb, t3, HH.out.ys, t4, HH.out.cap, t5, HH.out.yl, HH.out.dk, by have := HH.out.few; omega, HH.out.blk, HH.out.sl⟩)
    clear S1 st1 X1 t1 t2 t3 t4 t5
    dsimp only
    go_wp2_with fail
    go_ret
    exact ⟨rfl, HD.out⟩
  · have hb1 : ¬ (65536 : Int) < (m : Int) := by omega
    by_cases hfit : fitsB d s (l.length + 4) = false
    · have he : appS d s l = (10, d, s) := by unfold appS; rw [if_neg (by omega), if_pos hfit]
      rw [he] at HA
      have hnf : halfP d * 55 < m + 4 + s.tail.length + s.at_ * 55 := by
        unfold fitsB at hfit
        have := of_decide_eq_false hfit
        omega
      have hhn : d.now.length ≤ 2 * halfP d + 3 := by unfold halfP; omega
      have hfull : (16 * (d.now.length : Int) - 1024) < (tookL snap lst : Int) + (m : Int) + 32 := by omega
      have htb := tookL_le h.dk.now.few (by omega) h.sl
      clear h hr hl hm he hlen hle hcnt htk hsh hfw hfit hnf hhn
      go_enter Try.func20, Try.ntmps20
      go_wp2_with fail
      refine HA.out.mono ?_
      rintro e w1 ⟨lv1, tl1, rfl, S1, st1, X1⟩
      obtain ⟨t1, t2, t3, t4, t5, _⟩ := HH.out.turn S1 st1 X1
      have d7 : w1.cell? ⟨K, 7, none⟩ = some (.int .i64 (tookL snap lst)) := t2.cellAt rfl
      have d2 : w1.cell? ⟨K, 2, none⟩ = some (.int .i64 (16 * d.now.length - 1024)) := t2.cellAt rfl
      have HDf := Lib.hid (fun (k : Nat) => show Dk W K (N + 1) (w1.drewN k) from by
        have f := (Fr.refl [] w1).drewN k
        exact ⟨p, bb, q, lv1, tl1, vs, al, cl, us, d, s, whole, snap, lst, t1.trans0 f, S1.fr0 f, t2.drewN k, HH.out.kb, t3.step f (by simp) (fun _ h => .inl h), HH.out.ys, t4.fr0 f, HH.out.cap, t5.step f (by simp) (fun _ h => .inl h), HH.out.yl, HH.out.dk, by have := HH.out.few; omega, HH.out.blk, HH.out.sl⟩)
      clear S1 st1 X1 t1 t2 t3 t4 t5
      generalize tookL snap lst = tk at *
      dsimp only
      go_wp2_with fail
      go_quiet (fail)
      go_wp2_with fail
      go_ret
      refine ⟨?_, HDf.out _⟩
      rfl
    · have hft : fitsB d s (l.length + 4) = true := by simpa using hfit
      obtain ⟨e1, e2, e3, e4, e5, e6, e7, e8⟩ := h.dk.append h.sto.g32 h.sto.l32 (p := l) (by omega) hft
      rw [e1] at HA
      obtain ⟨r, hr2⟩ : ∃ r, (appS d s l).2 = r := ⟨_, rfl⟩
      rw [hr2] at HA e2 e3 e4 e5 e6 e7 e8
      have HE := Lib.hid (And.intro e2 (And.intro e3 (And.intro e4 (And.intro e5 (And.intro e6 (And.intro e7 e8))))))
      have htb := tookL_le h.dk.now.few (by omega) h.sl
      have hlc := h.cap
      have hl1 : lst.length ≤ 1000 := by omega
      clear h hr hl hm e1 e2 e3 e4 e5 e6 e7 e8 hr2 hlen hle hcnt htk hsh hfw hfit hft
      go_enter Try.func20, Try.ntmps20
      go_wp2_with fail
      refine HA.out.mono ?_
      rintro e w1 ⟨lv1, tl1, rfl, S1, st1, X1⟩
      obtain ⟨t1, t2, t3, t4, t5, t6⟩ := HH.out.turn S1 st1 X1
      have c5 : w1.cell? ⟨K, 5, none⟩ = some (.slice al lst.length cl) := t2.cellAt rfl
      have R1 : RdA w1 (dkX K p bb q lv1 tl1) a (bv l) := HR.out.frX (st1.more (fun k hk => .inr hk)) t6
      have HT := Lib.hid (And.intro t1 (And.intro t2 (And.intro t3 (And.intro t4 (And.intro t5 t6)))))
      have HS1 := Lib.hid S1
      have HR1 := Lib.hid R1
      have hcl1 : lst.length ≤ cl := hlc.1
      have hcl2 : cl ≤ 9223372036854775807 := by have := hlc.2; unfold maxLen at this; exact this
      have hKl := t2.lt
      obtain ⟨i0, hi0, hz0, hz1, hz2⟩ := info_parts info_bytes
      clear S1 st1 X1 t1 t2 t3 t4 t5 t6 R1 c1
      dsimp only
      go_wp2_with (first
        | (refine wpList_build0 rfl 23 24 1 rfl bss_build0 ?_; intro w2 O2 F2 S2; have HO2 := Lib.hid O2; have HF2 := Lib.hid F2; have c52 : w2.cell? ⟨K, 5, none⟩ = some (.slice al lst.length cl) := (HT.out.2.1.fr F2 (by simp)).cellAt rfl; clear O2 F2 S2)
        | (refine wpList_app rfl _ _ 23 23 rfl w1.heap.size 24 i0 _ 1 24 Try.underlying23 hi0 hz0 hz1 hz2 rfl (by omega) _ 0 [] (by rfl) HO2.out _ lst.length us (by rfl) ((HT.out.2.2.2.1.rd.fr0 HF2.out).src Try.underlying23 (by rw [HT.out.2.2.2.2.1.1, Nat.mul_one]) HT.out.2.2.2.2.1.one) (by simp only [maxLen]; omega) (by omega) (by have := HF2.out.size; omega) ?_; intro v3 w3 O3 F3 K3 _; obtain ⟨a3, k3, hv3, _, _, _⟩ := O3.form; subst hv3; rw [List.nil_append, Nat.zero_add] at O3; have HO3 := Lib.hid O3; have HF3 := Lib.hid (HF2.out.trans F3 (fun k hk hlt => by have := (HO2.out.lt hk).1; omega)); clear O3 F3 K3))
      refine (twin_calls w3 a c m l HM.out (by omega) (HR1.out.rd.fr0 HF3.out)).mono ?_
      rintro e w4 ⟨v4, rfl, O4, F4⟩
      obtain ⟨a4, k4, rfl, _, _, _⟩ := O4.form
      have HO4 := Lib.hid O4
      have HF4 := Lib.hid F4
      have htk7 : (tookL snap lst : Int) + ((m : Int) + 32) = (tookL snap (lst ++ [l]) : Int) := by
        have := HM.out
        simp only [tookL, List.map_append, List.map_cons, List.map_nil, List.sum_append, List.sum_cons, List.sum_nil]
        omega
      have HTK := Lib.hid htk7
      clear O4 F4 htk7 c5
      dsimp only
      go_wp2_with (first
        | (refine wpList_buildSlice1 rfl 23 24 _ rfl [.slice none 0 0] 1 24 Try.underlying23 (by kernel_rfl) (by simp) (by omega) (by omega) _ [.slice a4 m k4] (by rfl) (by rfl) (by simp) ?_; intro w5 B5 F5 S5; have HB5 := Lib.hid B5; have HF5 := Lib.hid F5; clear B5 F5 S5)
        | (refine wpList_app rfl _ _ 23 23 rfl w1.heap.size 24 i0 _ 1 24 Try.underlying23 hi0 hz0 hz1 hz2 rfl (by omega) _ lst.length us (by rfl) ((HO3.out.fr0 HF4.out).fr0 HF5.out) _ 1 [.slice a4 m k4] (by rfl) ((HB5.out.rd0 1).src Try.underlying23 rfl (by simp [Value.oneCell'])) (by simp only [maxLen]; omega) (by omega) (by have := HF3.out.size; have := HF4.out.size; have := HF5.out.size; omega) ?_; intro v6 w6 O6 F6 K6 _; obtain ⟨a6, k6, hv6, hk61, hk62, _⟩ := O6.form; subst hv6; have HO6 := Lib.hid O6; have HF6 := Lib.hid F6; have HK6 := Lib.hid (And.intro hk61 hk62); clear O6 F6 K6 hk61 hk62; have hv3 : ∀ k ∈ ob (Value.slice a3 lst.length k3), w1.heap.size ≤ k := (fun k hk => (HO3.out.lt hk).1); have HF16 := Lib.hid (((HF3.out.trans0 HF4.out).trans0 HF5.out).trans HF6.out (fun k hk hlt => by have := hv3 k hk; omega)); have HK66 := Lib.hid (HT.out.2.1.fr HF16.out (by simp)))
        | (refine wpList_store1 rfl 23 _ _ rfl K 5 (.slice a6 (lst.length + 1) k6) (by rfl) (by rfl) rfl 44 _ HK66.out (by simp [dskC]) (by kernel_rfl) rfl ?_; intro w7 B7 F7 S7; have HB7 := Lib.hid (show Blk w7 K 44 (dskC p q (16 * d.now.length - 1024) whole vs (.slice a6 (lst.length + 1) k6) s.safe (tookL snap lst)) from B7); have HF7 := Lib.hid F7; have c77 : w7.cell? ⟨K, 7, none⟩ = some (.int .i64 (tookL snap lst)) := HB7.out.cellAt rfl; clear B7 F7 S7)
        | (refine wpList_store1 rfl 3 _ _ rfl K 7 (.int .i64 ((tookL snap lst : Int) + ((m : Int) + 32))) (by rfl) (by rfl) rfl 44 _ HB7.out (by simp [dskC]) (by kernel_rfl) rfl ?_; intro w8 B8 F8 S8; rw [HTK.out] at B8; have HB8 := Lib.hid (show Blk w8 K 44 (dskC p q (16 * d.now.length - 1024) whole vs (.slice a6 (lst.length + 1) k6) s.safe (tookL snap (lst ++ [l]))) from B8); have HF8 := Lib.hid F8; clear B8 F8 S8))
      go_ret
      refine ⟨rfl, ?_⟩
      have f78 : Fr [K] w6 w8 := HF7.out.trans1 HF8.out
      have f18 : Fr [K] w1 w8 := (HF16.out.ext (S := [K])).trans1 f78
      obtain ⟨t1, t2, t3, t4, t5, t6⟩ := HT.out
      have hX8 : ∀ k ∈ [K], dkX K p bb q lv1 tl1 k ∨ w1.heap.size ≤ k := fun k hk => by rw [List.mem_singleton.1 hk]; exact .inl (.inl rfl)
      obtain ⟨e2, e3, e4, e5, e6, e7, e8⟩ := HE.out
      have S8 := HS1.out
      have hKs : ∀ k, stoX p bb q lv1 tl1 k → k ∉ [K] := fun k hk hm => by
        have e := List.mem_singleton.1 hm
        subst e
        rcases hk with hk | hk | hk
        · exact t2.ne S8.hq (by decide) hk
        · simp only [List.mem_cons] at hk
          rcases hk with hk | hk | hk
          · exact t2.ne S8.da.hp (by decide) hk
          · exact t2.ne S8.da.hb (by decide) hk
          · obtain ⟨cur, hc⟩ := S8.da.hl.blkOf hk
            exact t2.ne hc (by decide) rfl
        · obtain ⟨cur, hc⟩ := S8.ht.blkOf hk
          exact t2.ne hc (by decide) rfl
      have S8' : StoAt w8 W.heap.size p bb q lv1 tl1 r.1 r.2 := ⟨S8.da.fr f18 (hKs p (.inr (.inl (by simp)))) (hKs bb (.inr (.inl (by simp)))) (fun k hk => hKs k (.inr (.inl (by simp [hk])))), S8.yd, S8.hq.fr f18 (hKs q (.inl rfl)), S8.ht.fr f18 (fun k hk => hKs k (.inr (.inr hk))), S8.yt, S8.bq, S8.g32, S8.l32⟩
      have hfar : ∀ k, w1.heap.size ≤ k → ¬ dkX K p bb q lv1 tl1 k := fun k hk hm => by
        rcases hm with hm | hm
        · have := t2.lt
          omega
        · have := (stoX_ge S8 hm).2
          omega
      have o6 : Own w8 w1.heap.size 24 1 (.slice a6 (lst.length + 1) k6) (lst.length + 1) (us ++ [.slice a4 m k4]) := HO6.out.fr f78 (fun k hk hm => by
        have := (HO6.out.lt hk).1
        rw [List.mem_singleton.1 hm] at this
        have := t2.lt
        omega)
      have r6 := o6.rdS (X := dkX K p bb q lv1 tl1) (fun k hk => hfar k ((o6.lt hk).1))
      have o4 : Own w8 w3.heap.size 5 1 (.slice a4 m k4) m (bv l) := by
        have g1 := HO4.out.fr0 HF5.out
        have g2 := g1.fr HF6.out (fun k hk hm => by
          obtain ⟨c1, h1⟩ := g1.blkOf hk
          obtain ⟨c2, h2⟩ := ((HO3.out.fr0 HF4.out).fr0 HF5.out).blkOf hm
          exact h1.ne h2 (by decide) rfl)
        exact g2.fr f78 (fun k hk hm => by
          have := (g2.lt hk).1
          have h9 := HF3.out.size
          rw [List.mem_singleton.1 hm] at this
          have := t2.lt
          omega)
      have b4 : Bs w8 (dkX K p bb q lv1 tl1) (.slice a4 m k4) l := o4.bs HM.out (fun k hk => hfar k (by have := (o4.lt hk).1; have := HF3.out.size; omega))
      have hlst : (lst ++ [l]).length = lst.length + 1 := by simp
      have hkk := HK6.out
      have hfw := HH.out.few
      have hh5 : halfP d ≤ 2499 := by unfold halfP; omega
      refine ⟨p, bb, q, lv1, tl1, vs, a6, k6, us ++ [.slice a4 m k4], r.1, r.2, whole, snap, lst ++ [l], ⟨t1.trans f18 (fun k hk hlt => by rw [List.mem_singleton.1 hk] at hlt; have := HH.out.kb; omega), S8', ?_, HH.out.kb, t3.step f18 hX8 (fun _ h => .inl h), HH.out.ys, r6.1, ⟨by rw [hlst]; exact hkk.1, hkk.2⟩, (t5.step f18 hX8 (fun _ h => .inl h)).snoc b4, fun x hx => ?_, e2, ⟨by omega, by omega, by omega, by omega⟩, by rw [e7]; exact HH.out.blk, HH.out.sl⟩⟩
      · rw [hlst, e7, e8]
        exact HB8.out
      · rcases List.mem_append.1 hx with hx | hx
        · exact HH.out.yl x hx
        · rw [List.mem_singleton.1 hx]
          exact HL.out
end Go.Fur
