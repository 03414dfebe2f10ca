/- CommandBack: the walk. -/
import Derived.Test.YtmdfipahbhbgjaaWrit
import Derived.Test.YtmdfipahbhbgjaaAwake10
namespace Go.Fur
open Go Go.RowKit Go.Proofs Go.Proofs.YtmdfipahbhbgjaaW.PrintWords
set_option linter.unusedVariables false
set_option linter.unusedSimpArgs false
theorem Lea.enc_byt2 (t : Lea) : Byt t.enc := by
  unfold Lea.enc listE
  exact (((intsE_byt _).append ((layN_byt _).append (intsE_byt _))).append (intsE_byt _)).append (layN_byt _)
theorem eachE_byt {τ : Type} (enc : τ → List Int) (h : ∀ t, Byt (enc t)) (l : List τ) : Byt (eachE enc l) := by
  unfold eachE
  refine (layN_byt _).append (fun x hx => ?_)
  obtain ⟨t, _, ht⟩ := List.mem_flatMap.1 hx
  exact h t x ht
theorem Ans.enc_byt (x : Ans) : Byt x.enc := by
  unfold Ans.enc listE
  exact ((intsE_byt _).append ((layN_byt _).append (intsE_byt _))).append (eachE_byt _ (fun t => t.enc_byt2) _)
theorem Sta.enc_byt (x : Sta) : Byt x.enc := by
  unfold Sta.enc
  exact (((((intsE_byt _).append (eachE_byt _ (fun t => intsE_byt _) _)).append (eachE_byt _ (fun t => intsE_byt _) _)).append (eachE_byt _ (fun t => t.enc_byt) _)).append (eachE_byt _ (fun t => t.enc_byt2) _)).append (eachE_byt _ (fun t => intsE_byt _) _)
theorem Ent.enc_small (t : Ent) : t.enc.length ≤ 9 * (t.cmd.task.tickets.length + 50) := by
  unfold Ent.enc Cmd.enc
  simp only [List.length_append]
  have h1 := intsE_length [t.gap, t.client, t.seq]
  have h2 := intsE_length [t.cmd.id, t.cmd.inc, t.cmd.beat, t.cmd.since]
  have h3 := intsE_length t.cmd.queue.ints
  have h4 := intsE_length t.cmd.node.ints
  have h5 := Tas.enc_length t.cmd.task
  have h6 := layN_length (u64 t.cmd.kind)
  have h7 := kl_le (u64 t.cmd.kind)
  simp only [List.length_cons, List.length_nil] at h1 h2
  have h8 : t.cmd.queue.ints.length = 7 := rfl
  have h9 : t.cmd.node.ints.length = 5 := rfl
  omega
theorem leases_small (l : List Lea) : (eachE Lea.enc l).length ≤ 9 * (10 * (l.map fun t => t.cores.length + 1).sum + 1) := by
  have h1 := eachE_len Lea.enc (fun t => t.cores.length) l (fun t _ => by have := Lea.enc_length t; omega)
  have h2 := sum_10 l
  omega
theorem Ans.enc_small (x : Ans) : x.enc.length ≤ 9 * (10 * x.bulk + 20) := by
  have h1 := intsE_length [x.err, x.task, x.node]
  have h2 := listE_length x.cores
  have h3 := leases_small x.leases
  unfold Ans.bulk Ans.enc
  simp only [List.length_append, List.length_cons, List.length_nil] at *
  omega
theorem Sta.enc_small (x : Sta) : x.enc.length ≤ 9 * (20 * x.bulk + 50) := by
  have h1 := intsE_length [x.long, x.patience, x.now]
  have h3 := leases_small x.leases
  have h4 := eachE_len Tas.enc (fun t => t.tickets.length) x.tasks (fun t _ => tEnc_len t)
  have h5 := sum_10T x.tasks
  have h6 := eachE_len qEnc (fun _ => 1) x.queues (fun t _ => qEnc_len t)
  have h7 := eachE_len nEnc (fun _ => 1) x.nodes (fun t _ => nEnc_len t)
  have h8 := eachE_len hEnc (fun _ => 1) x.hungry (fun t _ => hEnc_len t)
  rw [sum_c] at h6 h7 h8
  unfold Sta.bulk Sta.enc
  simp only [List.length_append, List.length_cons, List.length_nil] at *
  omega
set_option maxRecDepth 100000 in
set_option maxHeartbeats 8000000 in
theorem CommandBack_calls {w : World} (t : Ent) (ae : Option Addr) (ce : Nat) (he : Rd w ae (iv t.cmd.task.tickets)) (hte : t.ok) (hle : t.cmd.task.tickets.length ≤ 1048576)
    (x : Ans) (aa : Option Addr) (ca : Nat) (ab : Option Addr) (cb : Nat) (css : List (List Value)) (ha : RdA w X0 aa (iv x.cores)) (hrow : RowA LeaAt 8 w X0 ab x.leases css) (hta : x.ok) (hla : x.bulk ≤ 1048576)
    (s : Sta) (u : StaP) (hs : StaAt w X0 s u) (hts : s.ok) (hls : s.bulk ≤ 1048576)
    {a : Option Addr} {n c : Nat} {l : List Int} (hsrc : Src l a n c) (hr : Rd w a (bv l)) (hn : l.length ≤ 1048576) :
    Calls Try.prog 9 #[.agg (t.cells ae ce).toArray, .agg (x.cells aa ca ab cb).toArray, .agg (s.cells u).toArray, .slice a n c] w (BoolE true w) := by
  have HEE := Lib.hid (fun (W : World) (f : Fr [] w W) => encodeE_calls (w := W) (base := W.heap.size) (Nat.le_refl _) t ae ce (he.fr0 f) hte hle)
  have HEA := Lib.hid (fun (W : World) (f : Fr [] w W) => encodeA_calls (w := W) (base := W.heap.size) (Nat.le_refl _) x aa ca ab cb css (ha.fr0 f) (hrow.fr0 f (fun _ _ _ _ f h => LeaAt.fr0 f h)) hta hla)
  have HES := Lib.hid (fun (W : World) (f : Fr [] w W) => encodeS_calls (w := W) (base := W.heap.size) (Nat.le_refl _) s u (hs.fr0 f) hts hls)
  have HXE := Lib.hid (fun (h : t.err = 0) => And.intro (show encE t = (t.enc, 0) by unfold encE; rw [if_pos h]) (fun (W : World) (ad : Option Addr) (k : Nat) (hk : t.enc.length ≤ k) (hr : Rd W ad (bv t.enc)) => by
    have h1 := decodeE_calls (w := W) (base := W.heap.size) (Nat.le_refl _) (a := ad) (n := t.enc.length) (c := k) (l := t.enc) ⟨rfl, hk, by have := t.enc_small; omega, t.enc_byt⟩ hr
    rw [dec_enc hte h] at h1
    exact h1))
  have HXA := Lib.hid (fun (h : x.er = 0) => And.intro (show encA x = (x.enc, 0) by unfold encA; rw [if_pos h]) (fun (W : World) (ad : Option Addr) (k : Nat) (hk : x.enc.length ≤ k) (hr : Rd W ad (bv x.enc)) => by
    have h1 := decodeA_calls (w := W) (base := W.heap.size) (Nat.le_refl _) (a := ad) (n := x.enc.length) (c := k) (l := x.enc) ⟨rfl, hk, by have := x.enc_small; omega, x.enc_byt⟩ hr
    rw [dec_encA hta h] at h1
    exact h1))
  have HXS := Lib.hid (fun (h : s.er = 0) => And.intro (show encS s = (s.enc, 0) by unfold encS; rw [if_pos h]) (fun (W : World) (ad : Option Addr) (k : Nat) (hk : s.enc.length ≤ k) (hr : Rd W ad (bv s.enc)) => by
    have h1 := decodeS_calls (w := W) (base := W.heap.size) (Nat.le_refl _) (a := ad) (n := s.enc.length) (c := k) (l := s.enc) ⟨rfl, hk, by have := s.enc_small; omega, s.enc_byt⟩ hr
    rw [dec_encS hts h] at h1
    exact h1))
  have HZE := Lib.hid (fun (h : ¬ t.err = 0) => show encE t = ([], t.err) by unfold encE; rw [if_neg h])
  have HZA := Lib.hid (fun (h : ¬ x.er = 0) => show encA x = ([], x.er) by unfold encA; rw [if_neg h])
  have HZS := Lib.hid (fun (h : ¬ s.er = 0) => show encS s = ([], s.er) by unfold encS; rw [if_neg h])
  have HSE := Lib.hid (fun (W : World) (ad : Option Addr) (k : Nat) (f : Fr [] w W) (h : Rd W ad (iv t.cmd.task.tickets)) => by
    have h1 := sameE_calls (w := W) t t ad ae k ce h (he.fr0 f) (by omega)
    rw [(sameE_is t t).2 rfl] at h1
    exact h1)
  have HSA := Lib.hid (fun (W : World) (a' b' : Option Addr) (c' d' : Nat) (f : Fr [] w W) (h1 : Rd W a' (iv x.cores)) (h2 : ∃ css, RowA LeaAt 8 W X0 b' x.leases css) => sameA_calls (w := W) x a' b' aa ab c' d' ca cb h1 (ha.rd.fr0 f) h2 ⟨css, hrow.fr0 f (fun _ _ _ _ f h => LeaAt.fr0 f h)⟩ hla)
  have HSS := Lib.hid (fun (W : World) (q : StaP) (f : Fr [] w W) (h : StaAt W X0 s q) => sameS_calls (w := W) s q u h (hs.fr0 f) hls)
  have HW := Lib.hid (fun (W : World) (f : Fr [] w W) => written_calls (w := W) hsrc (hr.fr0 f) hn)
  clear he hte hle ha hrow hta hla hs hts hls hsrc hr hn
  go_enter Try.func9, Try.ntmps9
  go_wp2_with (first
    | (have z := HBA.out; clear z; refine wpList_boxB rfl 58 _ rfl (s.cells u) (by rfl) ?_; intro w3 B3 F3 S3; have HBE3 := Lib.hid (HBE.out.fr F3 (by simp)); have HBA3 := Lib.hid (HBA.out.fr F3 (by simp)); have HBS3 := Lib.hid B3; have HF3 := Lib.hid (HF2.out.trans0 F3); clear B3 F3 S3)
    | (have z := HB1.out; clear z; refine wpList_boxB rfl 49 _ rfl (x.cells aa ca ab cb) (by rfl) ?_; intro w2 B2 F2 S2; have HBE := Lib.hid (HB1.out.fr F2 (by simp)); have HBA := Lib.hid B2; have HF2 := Lib.hid (HF1.out.trans0 F2); clear B2 F2 S2)
    | (refine wpList_boxB rfl 34 _ rfl (t.cells ae ce) (by rfl) ?_; intro w1 B1 F1 S1; have HB1 := Lib.hid B1; have HF1 := Lib.hid F1; clear B1 F1 S1))
  refine (awake_calls w3).mono ?_
  rintro e w0 ⟨rfl, f0⟩
  have HBS := Lib.hid (HBS3.out.fr f0 (by simp))
  have HBA' := Lib.hid (HBA3.out.fr f0 (by simp))
  have HBE' := Lib.hid (HBE3.out.fr f0 (by simp))
  have HF0 := Lib.hid (HF3.out.trans0 f0)
  clear f0 HF3 HBS3 HBA3 HBE3 HBA HBE HB1 HF1 HF2
  have HF3 := HF0
  have HBA := HBA'
  have HBE := HBE'
  clear HF0 HBA' HBE'
  have HFv := Lib.hid (Fr.refl [] w0)
  go_wp2_with (refine wpList_loadB rfl 34 _ rfl w.heap.size (by rfl) 34 _ _ (HBE.out.fr HFv.out (by simp)) Try.underlying34 rfl (entry_size2 t ae ce) ?_)
  refine (HEE.out w0 ((HF3.out).trans0 HFv.out)).mono ?_
  rintro e w4 ⟨v4, rfl, o4, f4⟩
  have HF4 := Lib.hid ((HFv.out).trans0 f4)
  clear f4
  by_cases her : t.err = 0
  · obtain ⟨hen, HDK⟩ := HXE.out her
    rw [hen] at o4 ⊢
    obtain ⟨a4, k4, rfl, g1, _, r4⟩ := o4.form
    have HR4 := Lib.hid r4
    have HG1 := Lib.hid g1
    clear o4 r4 g1 hen her
    dsimp only
    go_wp2_with fail
    refine (HDK w4 a4 k4 HG1.out HR4.out).mono ?_
    rintro e w5 ⟨v5, rfl, O, f5⟩
    have HF5 := Lib.hid (HF4.out.trans0 f5)
    clear f5 HDK
    obtain ⟨a', c', rfl, own⟩ := O; have HV := Lib.hid (own.rdS (X := X0) (fun _ _ h => h)).1; clear own
    dsimp only
    go_wp2_with (first
      | (have z := HB7.out; clear z; refine gate_guard (by rfl) (wpList_loadB rfl 34 _ rfl w5.heap.size (by rfl) 34 _ _ HB7.out Try.underlying34 rfl (entry_size2 t a' c') ?_))
      | (have z := HB7.out; clear z; refine gate_guard (by rfl) (wpList_loadB rfl 34 _ rfl w.heap.size (by rfl) 34 _ _ (HBE.out.fr HF7.out (by simp)) Try.underlying34 rfl (entry_size2 t ae ce) ?_))
      | (refine wpList_storeB rfl 34 _ _ rfl w5.heap.size 0 (t.cells a' c') (by rfl) (by rfl) 34 _ HB6.out (by show 0 + 27 ≤ 27; omega) (entry_size2 t a' c') (t.one a' c') ?_; intro w7 B7 F7 S7; rw [splice_all _ _ (by rfl)] at B7; have HB7 := Lib.hid B7; have HF57 := Lib.hid (HF56.out.trans F7 (fun k hk hlt => by rw [List.mem_singleton.1 hk] at hlt; omega)); have HF7 := Lib.hid (HF5.out.trans0 HF57.out); clear B7 F7 S7)
      | (refine wpList_allocZ rfl 34 rfl _ entry_zero2 ?_; intro w6 B6 F6 S6; have HB6 := Lib.hid B6; have HF56 := Lib.hid F6; clear B6 F6 S6))
    have HF37 := Lib.hid (HF3.out.trans0 HF7.out)
    refine (HSE.out w7 a' c' HF37.out (HV.out.rd.fr0 HF57.out)).mono ?_
    rintro e w8 ⟨rfl, f8⟩
    have HFx := Lib.hid (HF7.out.trans0 f8)
    clear f8 HF37 HF7 HF57 HF56 HB7 HB6 HF5 HF4 HR4 HG1
    generalize w8 = wx at *
    first | rw [rfl] | skip
    go_wp2_with (refine wpList_loadB rfl 49 _ rfl w1.heap.size (by rfl) 49 _ _ (HBA.out.fr HFx.out (by simp)) Try.underlying49 rfl (answer_size x aa ca ab cb) ?_)
    refine (HEA.out wx ((HF3.out).trans0 HFx.out)).mono ?_
    rintro e w4 ⟨v4, rfl, o4, f4⟩
    have HF4 := Lib.hid ((HFx.out).trans0 f4)
    clear f4
    by_cases her : x.er = 0
    · obtain ⟨hen, HDK⟩ := HXA.out her
      rw [hen] at o4 ⊢
      obtain ⟨a4, k4, rfl, g1, _, r4⟩ := o4.form
      have HR4 := Lib.hid r4
      have HG1 := Lib.hid g1
      clear o4 r4 g1 hen her
      dsimp only
      go_wp2_with fail
      refine (HDK w4 a4 k4 HG1.out HR4.out).mono ?_
      rintro e w5 ⟨v5, rfl, O, f5⟩
      have HF5 := Lib.hid (HF4.out.trans0 f5)
      clear f5 HDK
      obtain ⟨a', c', b', d', rfl, own, rw1⟩ := O; have HV := Lib.hid (And.intro (own.rdS (X := X0) (fun _ _ h => h)).1 (rw1.rowA (EL := LeaAt) (fun _ _ h => LeaW.at h))); clear own rw1
      dsimp only
      go_wp2_with (first
        | (have z := HB7.out; clear z; refine gate_guard (by rfl) (wpList_loadB rfl 49 _ rfl w5.heap.size (by rfl) 49 _ _ HB7.out Try.underlying49 rfl (answer_size x a' c' b' d') ?_))
        | (have z := HB7.out; clear z; refine gate_guard (by rfl) (wpList_loadB rfl 49 _ rfl w1.heap.size (by rfl) 49 _ _ (HBA.out.fr HF7.out (by simp)) Try.underlying49 rfl (answer_size x aa ca ab cb) ?_))
        | (refine wpList_storeB rfl 49 _ _ rfl w5.heap.size 0 (x.cells a' c' b' d') (by rfl) (by rfl) 49 _ HB6.out (by show 0 + 5 ≤ 5; omega) (answer_size x a' c' b' d') (by simp [Value.oneCell', Ans.cells]) ?_; intro w7 B7 F7 S7; rw [splice_all _ _ (by rfl)] at B7; have HB7 := Lib.hid B7; have HF57 := Lib.hid (HF56.out.trans F7 (fun k hk hlt => by rw [List.mem_singleton.1 hk] at hlt; omega)); have HF7 := Lib.hid (HF5.out.trans0 HF57.out); clear B7 F7 S7)
        | (refine wpList_allocZ rfl 49 rfl _ answer_zero3 ?_; intro w6 B6 F6 S6; have HB6 := Lib.hid B6; have HF56 := Lib.hid F6; clear B6 F6 S6))
      have HF37 := Lib.hid (HF3.out.trans0 HF7.out)
      refine (HSA.out w7 a' b' c' d' HF37.out (HV.out.1.rd.fr0 HF57.out) (HV.out.2.elim fun css h => ⟨css, h.fr0 HF57.out (fun _ _ _ _ f h => LeaAt.fr0 f h)⟩)).mono ?_
      rintro e w8 ⟨rfl, f8⟩
      have HFy := Lib.hid (HF7.out.trans0 f8)
      clear f8 HF37 HF7 HF57 HF56 HB7 HB6 HF5 HF4 HR4 HG1
      generalize w8 = wy at *
      first | rw [rfl] | skip
      go_wp2_with (refine wpList_loadB rfl 58 _ rfl w2.heap.size (by rfl) 58 _ _ (HBS.out.fr HFy.out (by simp)) Try.underlying58 rfl (state_size s u) ?_)
      refine (HES.out wy ((HF3.out).trans0 HFy.out)).mono ?_
      rintro e w4 ⟨v4, rfl, o4, f4⟩
      have HF4 := Lib.hid ((HFy.out).trans0 f4)
      clear f4
      by_cases her : s.er = 0
      · obtain ⟨hen, HDK⟩ := HXS.out her
        rw [hen] at o4 ⊢
        obtain ⟨a4, k4, rfl, g1, _, r4⟩ := o4.form
        have HR4 := Lib.hid r4
        have HG1 := Lib.hid g1
        clear o4 r4 g1 hen her
        dsimp only
        go_wp2_with fail
        refine (HDK w4 a4 k4 HG1.out HR4.out).mono ?_
        rintro e w5 ⟨v5, rfl, O, f5⟩
        have HF5 := Lib.hid (HF4.out.trans0 f5)
        clear f5 HDK
        obtain ⟨q, rfl, hst⟩ := O.at; have HV := Lib.hid hst; clear hst O
        dsimp only
        go_wp2_with (first
          | (have z := HB7.out; clear z; refine gate_guard (by rfl) (wpList_loadB rfl 58 _ rfl w5.heap.size (by rfl) 58 _ _ HB7.out Try.underlying58 rfl (state_size s q) ?_))
          | (have z := HB7.out; clear z; refine gate_guard (by rfl) (wpList_loadB rfl 58 _ rfl w2.heap.size (by rfl) 58 _ _ (HBS.out.fr HF7.out (by simp)) Try.underlying58 rfl (state_size s u) ?_))
          | (refine wpList_storeB rfl 58 _ _ rfl w5.heap.size 0 (s.cells q) (by rfl) (by rfl) 58 _ HB6.out (by show 0 + 8 ≤ 8; omega) (state_size s q) (s.one q) ?_; intro w7 B7 F7 S7; rw [splice_all _ _ (by rfl)] at B7; have HB7 := Lib.hid B7; have HF57 := Lib.hid (HF56.out.trans F7 (fun k hk hlt => by rw [List.mem_singleton.1 hk] at hlt; omega)); have HF7 := Lib.hid (HF5.out.trans0 HF57.out); clear B7 F7 S7)
          | (refine wpList_allocZ rfl 58 rfl _ state_zero ?_; intro w6 B6 F6 S6; have HB6 := Lib.hid B6; have HF56 := Lib.hid F6; clear B6 F6 S6))
        have HF37 := Lib.hid (HF3.out.trans0 HF7.out)
        refine (HSS.out w7 q HF37.out (HV.out.fr0 HF57.out)).mono ?_
        rintro e w8 ⟨rfl, f8⟩
        have HFz := Lib.hid (HF7.out.trans0 f8)
        clear f8 HF37 HF7 HF57 HF56 HB7 HB6 HF5 HF4 HR4 HG1
        generalize w8 = wz at *
        first | rw [rfl] | skip
        (go_wp2_with fail; refine (HW.out wz (HF3.out.trans0 HFz.out)).mono ?_; rintro e w9 ⟨rfl, f9⟩; have HF9 := Lib.hid ((HF3.out.trans0 HFz.out).trans0 f9); clear f9; go_wp2_with fail; go_ret; exact ⟨rfl, HF9.out⟩)
      · rw [(HZS.out her)] at o4 ⊢
        have hb : (s.er == 0) = false := by simpa using her
        have HFz := Lib.hid HF4.out
        clear o4 HF4 her
        dsimp only
        generalize w4 = wz at *
        (go_wp2_with fail; refine (HW.out wz (HF3.out.trans0 HFz.out)).mono ?_; rintro e w9 ⟨rfl, f9⟩; have HF9 := Lib.hid ((HF3.out.trans0 HFz.out).trans0 f9); clear f9; go_wp2_with fail; go_ret; exact ⟨rfl, HF9.out⟩)
    · rw [(HZA.out her)] at o4 ⊢
      have hb : (x.er == 0) = false := by simpa using her
      have HFy := Lib.hid HF4.out
      clear o4 HF4 her
      dsimp only
      generalize w4 = wy at *
      go_wp2_with (refine wpList_loadB rfl 58 _ rfl w2.heap.size (by rfl) 58 _ _ (HBS.out.fr HFy.out (by simp)) Try.underlying58 rfl (state_size s u) ?_)
      refine (HES.out wy ((HF3.out).trans0 HFy.out)).mono ?_
      rintro e w4 ⟨v4, rfl, o4, f4⟩
      have HF4 := Lib.hid ((HFy.out).trans0 f4)
      clear f4
      by_cases her : s.er = 0
      · obtain ⟨hen, HDK⟩ := HXS.out her
        rw [hen] at o4 ⊢
        obtain ⟨a4, k4, rfl, g1, _, r4⟩ := o4.form
        have HR4 := Lib.hid r4
        have HG1 := Lib.hid g1
        clear o4 r4 g1 hen her
        dsimp only
        go_wp2_with fail
        refine (HDK w4 a4 k4 HG1.out HR4.out).mono ?_
        rintro e w5 ⟨v5, rfl, O, f5⟩
        have HF5 := Lib.hid (HF4.out.trans0 f5)
        clear f5 HDK
        obtain ⟨q, rfl, hst⟩ := O.at; have HV := Lib.hid hst; clear hst O
        dsimp only
        go_wp2_with (first
          | (have z := HB7.out; clear z; refine gate_guard (by rfl) (wpList_loadB rfl 58 _ rfl w5.heap.size (by rfl) 58 _ _ HB7.out Try.underlying58 rfl (state_size s q) ?_))
          | (have z := HB7.out; clear z; refine gate_guard (by rfl) (wpList_loadB rfl 58 _ rfl w2.heap.size (by rfl) 58 _ _ (HBS.out.fr HF7.out (by simp)) Try.underlying58 rfl (state_size s u) ?_))
          | (refine wpList_storeB rfl 58 _ _ rfl w5.heap.size 0 (s.cells q) (by rfl) (by rfl) 58 _ HB6.out (by show 0 + 8 ≤ 8; omega) (state_size s q) (s.one q) ?_; intro w7 B7 F7 S7; rw [splice_all _ _ (by rfl)] at B7; have HB7 := Lib.hid B7; have HF57 := Lib.hid (HF56.out.trans F7 (fun k hk hlt => by rw [List.mem_singleton.1 hk] at hlt; omega)); have HF7 := Lib.hid (HF5.out.trans0 HF57.out); clear B7 F7 S7)
          | (refine wpList_allocZ rfl 58 rfl _ state_zero ?_; intro w6 B6 F6 S6; have HB6 := Lib.hid B6; have HF56 := Lib.hid F6; clear B6 F6 S6))
        have HF37 := Lib.hid (HF3.out.trans0 HF7.out)
        refine (HSS.out w7 q HF37.out (HV.out.fr0 HF57.out)).mono ?_
        rintro e w8 ⟨rfl, f8⟩
        have HFz := Lib.hid (HF7.out.trans0 f8)
        clear f8 HF37 HF7 HF57 HF56 HB7 HB6 HF5 HF4 HR4 HG1
        generalize w8 = wz at *
        first | rw [rfl] | skip
        (go_wp2_with fail; refine (HW.out wz (HF3.out.trans0 HFz.out)).mono ?_; rintro e w9 ⟨rfl, f9⟩; have HF9 := Lib.hid ((HF3.out.trans0 HFz.out).trans0 f9); clear f9; go_wp2_with fail; go_ret; exact ⟨rfl, HF9.out⟩)
      · rw [(HZS.out her)] at o4 ⊢
        have hb : (s.er == 0) = false := by simpa using her
        have HFz := Lib.hid HF4.out
        clear o4 HF4 her
        dsimp only
        generalize w4 = wz at *
        (go_wp2_with fail; refine (HW.out wz (HF3.out.trans0 HFz.out)).mono ?_; rintro e w9 ⟨rfl, f9⟩; have HF9 := Lib.hid ((HF3.out.trans0 HFz.out).trans0 f9); clear f9; go_wp2_with fail; go_ret; exact ⟨rfl, HF9.out⟩)
  · rw [(HZE.out her)] at o4 ⊢
    have hb : (t.err == 0) = false := by simpa using her
    have HFx := Lib.hid HF4.out
    clear o4 HF4 her
    dsimp only
    generalize w4 = wx at *
    go_wp2_with (refine wpList_loadB rfl 49 _ rfl w1.heap.size (by rfl) 49 _ _ (HBA.out.fr HFx.out (by simp)) Try.underlying49 rfl (answer_size x aa ca ab cb) ?_)
    refine (HEA.out wx ((HF3.out).trans0 HFx.out)).mono ?_
    rintro e w4 ⟨v4, rfl, o4, f4⟩
    have HF4 := Lib.hid ((HFx.out).trans0 f4)
    clear f4
    by_cases her : x.er = 0
    · obtain ⟨hen, HDK⟩ := HXA.out her
      rw [hen] at o4 ⊢
      obtain ⟨a4, k4, rfl, g1, _, r4⟩ := o4.form
      have HR4 := Lib.hid r4
      have HG1 := Lib.hid g1
      clear o4 r4 g1 hen her
      dsimp only
      go_wp2_with fail
      refine (HDK w4 a4 k4 HG1.out HR4.out).mono ?_
      rintro e w5 ⟨v5, rfl, O, f5⟩
      have HF5 := Lib.hid (HF4.out.trans0 f5)
      clear f5 HDK
      obtain ⟨a', c', b', d', rfl, own, rw1⟩ := O; have HV := Lib.hid (And.intro (own.rdS (X := X0) (fun _ _ h => h)).1 (rw1.rowA (EL := LeaAt) (fun _ _ h => LeaW.at h))); clear own rw1
      dsimp only
      go_wp2_with (first
        | (have z := HB7.out; clear z; refine gate_guard (by rfl) (wpList_loadB rfl 49 _ rfl w5.heap.size (by rfl) 49 _ _ HB7.out Try.underlying49 rfl (answer_size x a' c' b' d') ?_))
        | (have z := HB7.out; clear z; refine gate_guard (by rfl) (wpList_loadB rfl 49 _ rfl w1.heap.size (by rfl) 49 _ _ (HBA.out.fr HF7.out (by simp)) Try.underlying49 rfl (answer_size x aa ca ab cb) ?_))
        | (refine wpList_storeB rfl 49 _ _ rfl w5.heap.size 0 (x.cells a' c' b' d') (by rfl) (by rfl) 49 _ HB6.out (by show 0 + 5 ≤ 5; omega) (answer_size x a' c' b' d') (by simp [Value.oneCell', Ans.cells]) ?_; intro w7 B7 F7 S7; rw [splice_all _ _ (by rfl)] at B7; have HB7 := Lib.hid B7; have HF57 := Lib.hid (HF56.out.trans F7 (fun k hk hlt => by rw [List.mem_singleton.1 hk] at hlt; omega)); have HF7 := Lib.hid (HF5.out.trans0 HF57.out); clear B7 F7 S7)
        | (refine wpList_allocZ rfl 49 rfl _ answer_zero3 ?_; intro w6 B6 F6 S6; have HB6 := Lib.hid B6; have HF56 := Lib.hid F6; clear B6 F6 S6))
      have HF37 := Lib.hid (HF3.out.trans0 HF7.out)
      refine (HSA.out w7 a' b' c' d' HF37.out (HV.out.1.rd.fr0 HF57.out) (HV.out.2.elim fun css h => ⟨css, h.fr0 HF57.out (fun _ _ _ _ f h => LeaAt.fr0 f h)⟩)).mono ?_
      rintro e w8 ⟨rfl, f8⟩
      have HFy := Lib.hid (HF7.out.trans0 f8)
      clear f8 HF37 HF7 HF57 HF56 HB7 HB6 HF5 HF4 HR4 HG1
      generalize w8 = wy at *
      first | rw [rfl] | skip
      go_wp2_with (refine wpList_loadB rfl 58 _ rfl w2.heap.size (by rfl) 58 _ _ (HBS.out.fr HFy.out (by simp)) Try.underlying58 rfl (state_size s u) ?_)
      refine (HES.out wy ((HF3.out).trans0 HFy.out)).mono ?_
      rintro e w4 ⟨v4, rfl, o4, f4⟩
      have HF4 := Lib.hid ((HFy.out).trans0 f4)
      clear f4
      by_cases her : s.er = 0
      · obtain ⟨hen, HDK⟩ := HXS.out her
        rw [hen] at o4 ⊢
        obtain ⟨a4, k4, rfl, g1, _, r4⟩ := o4.form
        have HR4 := Lib.hid r4
        have HG1 := Lib.hid g1
        clear o4 r4 g1 hen her
        dsimp only
        go_wp2_with fail
        refine (HDK w4 a4 k4 HG1.out HR4.out).mono ?_
        rintro e w5 ⟨v5, rfl, O, f5⟩
        have HF5 := Lib.hid (HF4.out.trans0 f5)
        clear f5 HDK
        obtain ⟨q, rfl, hst⟩ := O.at; have HV := Lib.hid hst; clear hst O
        dsimp only
        go_wp2_with (first
          | (have z := HB7.out; clear z; refine gate_guard (by rfl) (wpList_loadB rfl 58 _ rfl w5.heap.size (by rfl) 58 _ _ HB7.out Try.underlying58 rfl (state_size s q) ?_))
          | (have z := HB7.out; clear z; refine gate_guard (by rfl) (wpList_loadB rfl 58 _ rfl w2.heap.size (by rfl) 58 _ _ (HBS.out.fr HF7.out (by simp)) Try.underlying58 rfl (state_size s u) ?_))
          | (refine wpList_storeB rfl 58 _ _ rfl w5.heap.size 0 (s.cells q) (by rfl) (by rfl) 58 _ HB6.out (by show 0 + 8 ≤ 8; omega) (state_size s q) (s.one q) ?_; intro w7 B7 F7 S7; rw [splice_all _ _ (by rfl)] at B7; have HB7 := Lib.hid B7; have HF57 := Lib.hid (HF56.out.trans F7 (fun k hk hlt => by rw [List.mem_singleton.1 hk] at hlt; omega)); have HF7 := Lib.hid (HF5.out.trans0 HF57.out); clear B7 F7 S7)
          | (refine wpList_allocZ rfl 58 rfl _ state_zero ?_; intro w6 B6 F6 S6; have HB6 := Lib.hid B6; have HF56 := Lib.hid F6; clear B6 F6 S6))
        have HF37 := Lib.hid (HF3.out.trans0 HF7.out)
        refine (HSS.out w7 q HF37.out (HV.out.fr0 HF57.out)).mono ?_
        rintro e w8 ⟨rfl, f8⟩
        have HFz := Lib.hid (HF7.out.trans0 f8)
        clear f8 HF37 HF7 HF57 HF56 HB7 HB6 HF5 HF4 HR4 HG1
        generalize w8 = wz at *
        first | rw [rfl] | skip
        (go_wp2_with fail; refine (HW.out wz (HF3.out.trans0 HFz.out)).mono ?_; rintro e w9 ⟨rfl, f9⟩; have HF9 := Lib.hid ((HF3.out.trans0 HFz.out).trans0 f9); clear f9; go_wp2_with fail; go_ret; exact ⟨rfl, HF9.out⟩)
      · rw [(HZS.out her)] at o4 ⊢
        have hb : (s.er == 0) = false := by simpa using her
        have HFz := Lib.hid HF4.out
        clear o4 HF4 her
        dsimp only
        generalize w4 = wz at *
        (go_wp2_with fail; refine (HW.out wz (HF3.out.trans0 HFz.out)).mono ?_; rintro e w9 ⟨rfl, f9⟩; have HF9 := Lib.hid ((HF3.out.trans0 HFz.out).trans0 f9); clear f9; go_wp2_with fail; go_ret; exact ⟨rfl, HF9.out⟩)
    · rw [(HZA.out her)] at o4 ⊢
      have hb : (x.er == 0) = false := by simpa using her
      have HFy := Lib.hid HF4.out
      clear o4 HF4 her
      dsimp only
      generalize w4 = wy at *
      go_wp2_with (refine wpList_loadB rfl 58 _ rfl w2.heap.size (by rfl) 58 _ _ (HBS.out.fr HFy.out (by simp)) Try.underlying58 rfl (state_size s u) ?_)
      refine (HES.out wy ((HF3.out).trans0 HFy.out)).mono ?_
      rintro e w4 ⟨v4, rfl, o4, f4⟩
      have HF4 := Lib.hid ((HFy.out).trans0 f4)
      clear f4
      by_cases her : s.er = 0
      · obtain ⟨hen, HDK⟩ := HXS.out her
        rw [hen] at o4 ⊢
        obtain ⟨a4, k4, rfl, g1, _, r4⟩ := o4.form
        have HR4 := Lib.hid r4
        have HG1 := Lib.hid g1
        clear o4 r4 g1 hen her
        dsimp only
        go_wp2_with fail
        refine (HDK w4 a4 k4 HG1.out HR4.out).mono ?_
        rintro e w5 ⟨v5, rfl, O, f5⟩
        have HF5 := Lib.hid (HF4.out.trans0 f5)
        clear f5 HDK
        obtain ⟨q, rfl, hst⟩ := O.at; have HV := Lib.hid hst; clear hst O
        dsimp only
        go_wp2_with (first
          | (have z := HB7.out; clear z; refine gate_guard (by rfl) (wpList_loadB rfl 58 _ rfl w5.heap.size (by rfl) 58 _ _ HB7.out Try.underlying58 rfl (state_size s q) ?_))
          | (have z := HB7.out; clear z; refine gate_guard (by rfl) (wpList_loadB rfl 58 _ rfl w2.heap.size (by rfl) 58 _ _ (HBS.out.fr HF7.out (by simp)) Try.underlying58 rfl (state_size s u) ?_))
          | (refine wpList_storeB rfl 58 _ _ rfl w5.heap.size 0 (s.cells q) (by rfl) (by rfl) 58 _ HB6.out (by show 0 + 8 ≤ 8; omega) (state_size s q) (s.one q) ?_; intro w7 B7 F7 S7; rw [splice_all _ _ (by rfl)] at B7; have HB7 := Lib.hid B7; have HF57 := Lib.hid (HF56.out.trans F7 (fun k hk hlt => by rw [List.mem_singleton.1 hk] at hlt; omega)); have HF7 := Lib.hid (HF5.out.trans0 HF57.out); clear B7 F7 S7)
          | (refine wpList_allocZ rfl 58 rfl _ state_zero ?_; intro w6 B6 F6 S6; have HB6 := Lib.hid B6; have HF56 := Lib.hid F6; clear B6 F6 S6))
        have HF37 := Lib.hid (HF3.out.trans0 HF7.out)
        refine (HSS.out w7 q HF37.out (HV.out.fr0 HF57.out)).mono ?_
        rintro e w8 ⟨rfl, f8⟩
        have HFz := Lib.hid (HF7.out.trans0 f8)
        clear f8 HF37 HF7 HF57 HF56 HB7 HB6 HF5 HF4 HR4 HG1
        generalize w8 = wz at *
        first | rw [rfl] | skip
        (go_wp2_with fail; refine (HW.out wz (HF3.out.trans0 HFz.out)).mono ?_; rintro e w9 ⟨rfl, f9⟩; have HF9 := Lib.hid ((HF3.out.trans0 HFz.out).trans0 f9); clear f9; go_wp2_with fail; go_ret; exact ⟨rfl, HF9.out⟩)
      · rw [(HZS.out her)] at o4 ⊢
        have hb : (s.er == 0) = false := by simpa using her
        have HFz := Lib.hid HF4.out
        clear o4 HF4 her
        dsimp only
        generalize w4 = wz at *
        (go_wp2_with fail; refine (HW.out wz (HF3.out.trans0 HFz.out)).mono ?_; rintro e w9 ⟨rfl, f9⟩; have HF9 := Lib.hid ((HF3.out.trans0 HFz.out).trans0 f9); clear f9; go_wp2_with fail; go_ret; exact ⟨rfl, HF9.out⟩)
end Go.Fur
