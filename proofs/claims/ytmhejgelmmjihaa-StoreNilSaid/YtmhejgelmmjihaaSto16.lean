/- A crash at a desk: contract of the desk's crash. -/
import Derived.Test.YtmhejgelmmjihaaSto15
import Derived.Deep.CutBlock
import Derived.Deep.DeepCutAuto
import Derived.Deep.QuietTactic
import Derived.BigQuiet
namespace Go.Fur
open Go Go.RowKit Go.Proofs
set_option linter.unusedVariables false
set_option linter.unusedSimpArgs false
theorem AllB.takeN {w : World} {X : Nat → Prop} {vs : List Value} {ls : List (List Int)} (h : AllB w X vs ls) (n : Nat) : AllB w X (vs.take n) (ls.take n) := by
  refine ⟨by rw [List.length_take, List.length_take, h.1], fun i v l h1 h2 => ?_⟩
  rw [List.getElem?_take] at h1 h2
  split at h1
  · rename_i hi
    rw [if_pos hi] at h2
    exact h.2 i v l h1 h2
  · cases h1
theorem RdA.takeN {w : World} {X : Nat → Prop} {a : Option Addr} {cs : List Value} (h : RdA w X a cs) (n : Nat) : RdA w X a (cs.take n) := fun hn => by
  obtain ⟨b, o, ha, hx, hlt, hr⟩ := h (fun h0 => hn (by rw [h0]; simp))
  refine ⟨b, o, ha, hx, hlt, fun j v hv => ?_⟩
  rw [List.getElem?_take] at hv
  split at hv
  · exact hr j v hv
  · cases hv
theorem RdA.any {w : World} {X : Nat → Prop} {a : Option Addr} {cs : List Value} (h : RdA w X a cs) : RdA w (fun _ => False) a cs := h.step (Fr.refl [] w) (by simp) (fun k hk => hk.elim)
theorem AllB.any {w : World} {X : Nat → Prop} {vs : List Value} {ls : List (List Int)} (h : AllB w X vs ls) : AllB w (fun _ => False) vs ls := h.step (Fr.refl [] w) (by simp) (fun k hk => hk.elim)
theorem AllB.fr0 {w w' : World} {X : Nat → Prop} {vs : List Value} {ls : List (List Int)} (h : AllB w X vs ls) (f : Fr [] w w') : AllB w' X vs ls := h.step f (by simp) (fun _ h => .inl h)
def takes (l : List (List Int)) : Nat := (l.map fun p => p.length + 32).sum
theorem tookL_takes (snap : List Int) (lst : List (List Int)) : tookL snap lst = snap.length + takes lst := rfl
theorem takes_append (l m : List (List Int)) : takes (l ++ m) = takes l + takes m := by simp [takes]
def Has (K i : Nat) (v : Value) (W : World) : Prop := W.cell? ⟨K, i, none⟩ = some v
def CrR (w : World) (K p q : Nat) (size : Int) (whole : Bool) (vs vl : Value) (safe T n : Nat) (lst : List (List Int)) (i : Value) (wr : World) : Prop :=
  ∃ k : Nat, k ≤ lst.length - n ∧ i = .int .i64 k ∧ Blk wr K 44 (dskC p q size whole vs vl safe ((T : Int) - (takes ((lst.drop n).take k) : Nat))) ∧ Fr [K] w wr
theorem tookL_cut (snap : List Int) (lst : List (List Int)) (n : Nat) : (tookL snap lst : Int) - (takes (lst.drop n) : Nat) = (tookL snap (lst.take n) : Nat) := by
  have h2 : takes lst = takes (lst.take n) + takes (lst.drop n) := by rw [← takes_append, List.take_append_drop]
  rw [tookL_takes, tookL_takes]
  omega
theorem encs_byt : ∀ {l : List (List Int)}, (∀ p ∈ l, Byt p) → (∀ p ∈ l, p.length ≤ 65536) → Byt (encs l)
  | [], _, _ => Byt.nil
  | p :: l, h, h2 => by
    rw [encs_cons]
    refine Byt.append (fun y hy => ?_) ((h p (by simp)).append (encs_byt (fun q hq => h q (by simp [hq])) (fun q hq => h2 q (by simp [hq]))))
    have := h2 p (by simp)
    simp only [le4, List.mem_cons, List.not_mem_nil, or_false] at hy
    omega
set_option maxRecDepth 100000 in
set_option maxHeartbeats 16000000 in
theorem dcr_calls {W w : World} {K N p bb q : Nat} {lv tl vs : Value} {al : Option Addr} {cl : Nat} {us : List Value} {d : D} {s : St} {whole : Bool} {snap : List Int} {lst : List (List Int)} (h : DkAt W w K N p bb q lv tl vs al cl us d s whole snap lst) (hN : N ≤ 1000) (keep : Nat) (hkp : keep ≤ 9223372036854775807) :
    Calls Try.prog 21 #[.pointer (some ⟨K, 0, none⟩), .int .i64 keep] w fun e w' => e = .returned (.bool true) ∧ Dk W K (N + 1) w' := by
  have hfw := h.few
  have hbs : W.heap.size ≤ w.heap.size := h.fr.size
  obtain ⟨n, n1, n2, n3, n4, L', i, tail, hL', hop, hdk⟩ := h.dk.lost h.sto.da.wf (by omega) keep
  have c0 : w.cell? ⟨K, 0, none⟩ = some (.pointer (some ⟨p, 0, none⟩)) := h.hk.cellAt rfl
  have HLo := Lib.hid (loose_calls h.sto.da)
  have HCr := Lib.hid (crash_calls h.sto.da keep (by omega))
  have HH := Lib.hid h
  have HP := Lib.hid (And.intro n3 (And.intro n4 (And.intro hop hdk)))
  have hll : d.loose.length ≤ 9223372036854775807 := by omega
  obtain ⟨ll, hlle⟩ : ∃ ll, d.loose.length = ll := ⟨_, rfl⟩
  rw [hlle] at HLo hll
  have HLL := Lib.hid hlle
  clear h n3 n4 hop hdk hlle hfw
  go_enter Try.func21, Try.ntmps21
  go_wp2_with fail
  refine HLo.out.mono ?_
  rintro e w1 ⟨rfl, rfl⟩
  dsimp only
  go_wp2_with fail
  refine HCr.out.mono ?_
  rintro e w1 ⟨rfl, D1, F1⟩
  have hK1 : Blk w1 K 44 _ := HH.out.hk.fr F1 (fun hm => by
    have := HH.out.kn
    simp only [List.mem_cons, List.not_mem_nil, or_false] at hm
    exact this (.inr (.inl (by rcases hm with hm | hm <;> simp [hm]))))
  have c01 : w1.cell? ⟨K, 0, none⟩ = some (.pointer (some ⟨p, 0, none⟩)) := hK1.cellAt rfl
  have HD1 := Lib.hid D1
  have HF1 := Lib.hid F1
  have HK1 := Lib.hid hK1
  clear D1 F1 hK1 c0
  rw [Int.toNat_natCast] at HD1
  dsimp only
  go_wp2_with fail
  have hby : D.byt ⟨undo d keep, []⟩ := ⟨undo_byt HH.out.sto.yd keep, by simp⟩
  refine (open_calls HD1.out hby).mono ?_
  rintro e w3 ⟨q3, vs3, vr3, tl3, m1, m2, rfl, O3, F3⟩
  rw [HP.out.2.2.1] at O3 ⊢
  have hfew := HH.out.few
  have hrl : (lst.take n).length = n := by rw [List.length_take]; omega
  have hdk := HP.out.2.2.2
  have hyt : Byt tail := by
    have htl := hdk.pos.tl
    dsimp only at htl
    rw [htl]
    exact (HH.out.ys.append (encs_byt (fun x hx => HH.out.yl x (List.mem_of_mem_take hx)) (fun x hx => HH.out.dk.now.few x (List.mem_of_mem_take hx)))).drop _
  have S3 := O3.sto (by have := HF1.out.size; omega) hby hyt (by dsimp only; omega) (by dsimp only; omega)
  dsimp only at S3
  rw [hrl] at S3
  have F13 : Fr [p, bb] w w3 := HF1.out.trans F3 (fun k hk _ => by rw [List.mem_singleton.1 hk]; simp)
  have hw1 := HF1.out.size
  have hX3 : ∀ k, dkX K p bb q3 (.slice none 0 0) tl3 k → dkX K p bb q lv tl k ∨ w.heap.size ≤ k := fun k hk => by
    rcases hk with hk | hk | hk | hk
    · exact .inl (.inl hk)
    · have := O3.ql
      exact .inr (by omega)
    · simp only [List.mem_cons, ob_nil, List.not_mem_nil, or_false] at hk
      exact .inl (.inr (.inr (.inl (by rcases hk with hk | hk <;> simp [hk]))))
    · have := (O3.tl.lt hk).1
      have := O3.l1
      have := O3.l2
      exact .inr (by omega)
  have hT13 : ∀ k ∈ [p, bb], dkX K p bb q lv tl k ∨ w.heap.size ≤ k := fun k hk => by
    simp only [List.mem_cons, List.not_mem_nil, or_false] at hk
    exact .inl (.inr (.inr (.inl (by rcases hk with hk | hk <;> simp [hk]))))
  have hKpb : K ∉ [p, bb] := fun hm => by
    simp only [List.mem_cons, List.not_mem_nil, or_false] at hm
    exact HH.out.kn (.inr (.inl (by rcases hm with hm | hm <;> simp [hm])))
  have K3 := HH.out.hk.fr F13 hKpb
  have sn3 := HH.out.sn.step F13 hT13 hX3
  have li3 := HH.out.li.step F13 hT13 hX3
  have ls3 := HH.out.ls.step F13 hT13 hX3
  have fr3 : Fr [] W w3 := HH.out.fr.trans F13 (fun k hk hlt => by
    simp only [List.mem_cons, List.not_mem_nil, or_false] at hk
    have := HH.out.sto.da.bp
    have := HH.out.sto.da.bbb
    omega)
  obtain ⟨av3, cv3, rfl, hv1, hv2, hv3⟩ := O3.sn.form
  dsimp only at hv1 hv3
  obtain ⟨us3, hus, husl, husa⟩ := O3.rs
  dsimp only at hus husl husa
  rw [hrl] at hus husl
  obtain ⟨ar3, cr3, rfl, hr1, hr2, hr3⟩ := hus.form
  have al3 : AllB w3 (fun _ => False) us3 (lst.take n) := ⟨by rw [husl, hrl], fun j v l h1 h2 => (husa j v l h1 h2).1.bs rfl (fun _ _ h => h)⟩
  obtain ⟨as0, cs0, hsv, hsr, hsc1, hsc2⟩ := sn3
  subst hsv
  have HA := Lib.hid (And.intro S3 (And.intro K3 (And.intro (show Bs w3 (dkX K p bb q3 (.slice none 0 0) tl3) (.slice as0 snap.length cs0) snap from ⟨as0, cs0, rfl, hsr, hsc1, hsc2⟩) (And.intro li3 (And.intro ls3 fr3)))))
  have HB := Lib.hid (And.intro hv3 (And.intro (hus.rdS (X := fun _ => False) (fun _ _ h => h)).1 al3))
  clear S3 K3 li3 ls3 fr3 O3 F3 F13 hX3 hT13 hus husl husa hv3 al3 hsr hr3 hdk hyt hby HD1 HF1 HK1 HCr c01
  dsimp only
  go_upto_region 6 with fail
  have hz4 := World.size_alloc w3 (.cells #[.bool whole, .slice av3 snap.length cv3, .slice ar3 n cr3] 33)
  have G4 : Blk (w3.alloc (.cells #[.bool whole, .slice av3 snap.length cv3, .slice ar3 n cr3] 33)) w3.heap.size 33 [.bool whole, .slice av3 snap.length cv3, .slice ar3 n cr3] := Blk.new w3 33 _
  have F4 := (Fr.refl [] w3).alloc (.cells #[.bool whole, .slice av3 snap.length cv3, .slice ar3 n cr3] 33)
  generalize w3.alloc (.cells #[.bool whole, .slice av3 snap.length cv3, .slice ar3 n cr3] 33) = w4 at *
  obtain ⟨g, hg⟩ : ∃ g, w3.heap.size = g := ⟨_, rfl⟩
  rw [hg] at G4 ⊢
  have HG4 := Lib.hid G4
  have HF4 := Lib.hid F4
  clear G4 F4 hz4 hg
  have k4 := HA.out.2.1.fr HF4.out (by simp)
  have d3 : ∀ W', Fr [] w4 W' → W'.cell? ⟨K, 3, none⟩ = some (.bool whole) := fun W' f => (k4.fr f (by simp)).cellAt rfl
  have HK4 := Lib.hid k4
  have c43 : w4.cell? ⟨K, 3, none⟩ = some (.bool whole) := k4.cellAt rfl
  have c44 : w4.cell? ⟨K, 4, none⟩ = some (.slice as0 snap.length cs0) := k4.cellAt rfl
  have c45 : w4.cell? ⟨K, 5, none⟩ = some (.slice al lst.length cl) := k4.cellAt rfl
  have c46 : w4.cell? ⟨K, 6, none⟩ = some (.int .i64 s.safe) := k4.cellAt rfl
  have g40 : w4.cell? ⟨g, 0, none⟩ = some (.bool whole) := HG4.out.cellAt rfl
  have g41 : w4.cell? ⟨g, 1, none⟩ = some (.slice av3 snap.length cv3) := HG4.out.cellAt rfl
  have g42 : w4.cell? ⟨g, 2, none⟩ = some (.slice ar3 n cr3) := HG4.out.cellAt rfl
  have hcl1 : lst.length ≤ cl := HH.out.cap.1
  have hcl2 : cl ≤ 9223372036854775807 := by have := HH.out.cap.2; unfold maxLen at this; exact this
  have hlim : lst.length ≤ 1000 := by omega
  clear k4 d3
  go_cut [115] from 33 to 154 (fun s115 wx => s115 = .bool false ∧ Fr [] w4 wx)
  case first =>
    have hww : (whole != whole) = false := by simp
    have hcn : n ≤ maxLen := Nat.le_trans hr1 hr2
    have b1 : decide ((n : Int) < (s.safe : Int)) = false := by simp; omega
    have b1n : decide (n < s.safe) = false := by simp; omega
    have b2n : decide (lst.length < n) = false := by simp; omega
    have b2 : decide ((lst.length : Int) < (n : Int)) = false := by simp; omega
    have b3 : decide ((n : Int) > (lst.length : Int)) = false := by simp; omega
    obtain ⟨z1, hz1⟩ : ∃ z, ((keep : Int) == 0) = z := ⟨_, rfl⟩
    obtain ⟨z2, hz2⟩ : ∃ z, ((n : Int) != (s.safe : Int)) = z := ⟨_, rfl⟩
    obtain ⟨z3, hz3⟩ : ∃ z, decide (ll ≤ keep) = z := ⟨_, rfl⟩
    have hz3i : decide ((ll : Int) ≤ (keep : Int)) = z3 := by rw [← hz3]; simp
    obtain ⟨z4, hz4⟩ : ∃ z, ((n : Int) != (lst.length : Int)) = z := ⟨_, rfl⟩
    have b4 : (z1 && z2) = false := by
      cases z1
      · rfl
      · have hk0 : keep = 0 := by have := beq_iff_eq.1 hz1; omega
        cases z2
        · rfl
        · exfalso
          have h6 := HP.out.1 hk0
          simp [h6] at hz2
    have b5 : (z3 && z4) = false := by
      cases z3
      · rfl
      · have hk0 : ll ≤ keep := by have := of_decide_eq_true hz3; omega
        cases z4
        · rfl
        · exfalso
          have h6 := HP.out.2.1 (by rw [HLL.out]; exact hk0)
          simp [h6] at hz4
    have HQ1 : Hid (∀ j, Calls Try.prog 18 #[.slice av3 snap.length cv3, .slice as0 snap.length cs0] (w4.drewN j) fun e w' => e = .returned (.bool true) ∧ ∃ m, w' = w4.drewN m) := Lib.hid (fun j => (bytes_calls (w4.drewN j) av3 as0 cv3 cs0 snap.length snap.length snap snap rfl rfl HH.out.ys HH.out.ys (HB.out.1.fr0 (HF4.out.trans0 ((Fr.refl [] w4).drewN j))) (by obtain ⟨a5, c5, h5, h6, _⟩ := HA.out.2.2.1; cases h5; exact h6.rd.fr0 (HF4.out.trans0 ((Fr.refl [] w4).drewN j)))).mono (fun e w' hw' => ⟨by rw [hw'.1]; simp, j, hw'.2.symm⟩))
    have HQ2 : Hid (∀ j, Calls Try.prog 25 #[.slice ar3 n cr3, .slice al n cl] (w4.drewN j) fun e w' => e = .returned (.bool true) ∧ ∃ m, w' = w4.drewN m) := Lib.hid (fun j => (lists_quiet (c1 := cr3) (c2 := cl) (HB.out.2.1.fr0 (HF4.out.trans0 ((Fr.refl [] w4).drewN j))) ((HA.out.2.2.2.1.takeN n).any.fr0 (HF4.out.trans0 ((Fr.refl [] w4).drewN j))) (HB.out.2.2.fr0 (HF4.out.trans0 ((Fr.refl [] w4).drewN j))) ((HA.out.2.2.2.2.1.takeN n).any.fr0 (HF4.out.trans0 ((Fr.refl [] w4).drewN j))) hrl hrl (fun x hx => HH.out.yl x (List.mem_of_mem_take hx)) (fun x hx => HH.out.yl x (List.mem_of_mem_take hx)) hcn).mono (fun e w' hw' => ⟨by rw [hw'.1]; simp, by obtain ⟨m, hm⟩ := hw'.2; exact ⟨j + m, by rw [hm, World.drewN_drewN]⟩⟩))
    clear hr1 hr2 hv1 hsc1 hsc2 hw1 hlim hrl hbs HLL hcn HP
    refine wp_region_quiet_lit mixed ?hB ?_
    case hB => kernel_rfl
    dsimp only [List.append]
    repeat (go_big_quiet_step (first | exact HQ1.out _ | exact HQ2.out _))
    cases z1
    · clear hz2 b4
      repeat (go_big_quiet_step (first | exact HQ1.out _ | exact HQ2.out _))
      cases z3
      · clear hz4 b5
        repeat (go_big_quiet_step (first | exact HQ1.out _ | exact HQ2.out _))
        refine wpQuiet_nil ?_
        intro _ hw'
        obtain ⟨nq, hw''⟩ := hw'
        subst hw''
        go_wp2_with fail
        go_meet
        exact ⟨rfl, (Fr.refl [] w4).drewN nq⟩
      · have hz4f : z4 = false := by simpa using b5
        subst hz4f
        repeat (go_big_quiet_step (first | exact HQ1.out _ | exact HQ2.out _))
        refine wpQuiet_nil ?_
        intro _ hw'
        obtain ⟨nq, hw''⟩ := hw'
        subst hw''
        go_wp2_with fail
        go_meet
        exact ⟨rfl, (Fr.refl [] w4).drewN nq⟩
    · have hz2f : z2 = false := by simpa using b4
      subst hz2f
      repeat (go_big_quiet_step (first | exact HQ1.out _ | exact HQ2.out _))
      cases z3
      · clear hz4 b5
        repeat (go_big_quiet_step (first | exact HQ1.out _ | exact HQ2.out _))
        refine wpQuiet_nil ?_
        intro _ hw'
        obtain ⟨nq, hw''⟩ := hw'
        subst hw''
        go_wp2_with fail
        go_meet
        exact ⟨rfl, (Fr.refl [] w4).drewN nq⟩
      · have hz4f : z4 = false := by simpa using b5
        subst hz4f
        repeat (go_big_quiet_step (first | exact HQ1.out _ | exact HQ2.out _))
        refine wpQuiet_nil ?_
        intro _ hw'
        obtain ⟨nq, hw''⟩ := hw'
        subst hw''
        go_wp2_with fail
        go_meet
        exact ⟨rfl, (Fr.refl [] w4).drewN nq⟩
  case rest =>
    obtain ⟨hb115, hfc⟩ := hcut
    subst hb115
    have hkc : Blk wc K 44 (dskC p q (16 * d.now.length - 1024) whole (.slice as0 snap.length cs0) (.slice al lst.length cl) s.safe (tookL snap lst)) := HK4.out.fr hfc (by simp)
    have HFC := Lib.hid hfc
    have HKC := Lib.hid hkc
    have d5 : wc.cell? ⟨K, 5, none⟩ = some (.slice al lst.length cl) := hkc.cellAt rfl
    have hlc : RdA wc (dkX K p bb q3 (.slice none 0 0) tl3) al us := (HA.out.2.2.2.1.fr0 HF4.out).fr0 hfc
    have hac : AllB wc (dkX K p bb q3 (.slice none 0 0) tl3) us lst := (HA.out.2.2.2.2.1.fr0 HF4.out).fr0 hfc
    have HLC := Lib.hid hlc
    have HAC := Lib.hid hac
    obtain ⟨aR, hRR, hsl⟩ := slice_l (P := Try.prog) Try.underlying23 (by kernel_rfl : (Try.prog.info? 24).map (·.size) = some 1) al lst.length cl n n rfl n2 hcl1
    have hRd : ∀ W', Fr [K] wc W' → Rd W' aR (us.drop n) := fun W' f => hRR W' us (HLC.out.step f (fun k hk => .inl (by rw [List.mem_singleton.1 hk]; exact .inl rfl)) (fun k hk => .inl hk) (X' := dkX K p bb q3 (.slice none 0 0) tl3)).rd (by rw [← HAC.out.1])
    have HRD := Lib.hid hRd
    have htk : tookL snap lst ≤ 1000000000 := tookL_le HH.out.dk.now.few (by omega) HH.out.sl
    have HPL := Lib.hid (fun x hx => HH.out.dk.now.few x hx)
    clear hfc hkc hlc hac hRd hRR c43 c44 c45 c46 g40 g41 g42 hv1 hsc1 hsc2
    go_wp2_with fail
    go_loopw [123] (fun i wr => CrR wc K p q (16 * d.now.length - 1024) whole (.slice as0 snap.length cs0) (.slice al lst.length cl) s.safe (tookL snap lst) n lst i wr) (fun i _ => (lst.length - n) - (intOf i).toNat)
    case atStart => exact ⟨0, Nat.zero_le _, rfl, by have := HKC.out; simpa [takes] using this, Fr.refl _ _⟩
    case round =>
      obtain ⟨k, hk, rfl, hB, hF⟩ := hrel
      by_cases hlt : k < lst.length - n
      · have i0 : (0 : Int) ≤ (k : Int) := by omega
        have i1 : (k : Int) < ((lst.length - n : Nat) : Int) := by omega
        obtain ⟨x, hxk⟩ : ∃ x, lst[n + k]? = some x := ⟨_, List.getElem?_eq_getElem (by omega)⟩
        obtain ⟨v, hv1, ax, cx, rfl, hvx, hcx, _⟩ := HAC.out.get hxk
        obtain ⟨b1, o1, ha1, hr1⟩ := HRD.out wr hF (by intro h0; have h9 := congrArg List.length h0; have h8 := HAC.out.1; simp at h9; omega)
        subst ha1
        have c1 : wr.cell? ⟨b1, o1 + k, none⟩ = some (.slice ax x.length cx) := hr1 k _ (by rw [List.getElem?_drop]; exact hv1)
        obtain ⟨tk, htk1⟩ : ∃ tk : Nat, takes ((lst.drop n).take k) = tk := ⟨_, rfl⟩
        have htk2 : takes ((lst.drop n).take (k + 1)) = tk + (x.length + 32) := by
          rw [List.take_add_one, takes_append, htk1, List.getElem?_drop, hxk]
          simp [takes]
        have hx6 : x.length ≤ 65536 := HPL.out x (List.mem_of_getElem? hxk)
        have htk3 : tk + (x.length + 32) ≤ tookL snap lst := by
          rw [← htk2, tookL_takes]
          have h1 : takes lst = takes (lst.take n) + takes (lst.drop n) := by rw [← takes_append, List.take_append_drop]
          have h2 : takes (lst.drop n) = takes ((lst.drop n).take (k + 1)) + takes ((lst.drop n).drop (k + 1)) := by rw [← takes_append, List.take_append_drop]
          omega
        rw [htk1] at hB
        have c7 : wr.cell? ⟨K, 7, none⟩ = some (.int .i64 ((tookL snap lst : Nat) - (tk : Nat))) := hB.cellAt rfl
        have HB := Lib.hid hB
        have HF := Lib.hid hF
        have HT2 := Lib.hid htk2
        clear hB hF hr1 hxk hv1 hvx htk1 htk2
        generalize htl : tookL snap lst = T at *
        go_wp2_with (first
          | (refine wpList_store1 rfl 3 _ _ rfl K 7 (.int .i64 ((T : Int) - (tk : Int) - ((x.length : Int) + 32))) (by rfl) (by rfl) rfl 44 _ HB.out (by simp [dskC]) (by kernel_rfl) rfl ?_; intro w5 B5 F5 S5; have HB5 := Lib.hid B5; have HF5 := Lib.hid F5; clear B5 F5 S5))
        go_roundw
        case rel =>
          refine ⟨k + 1, by omega, by go_num, ?_, HF.out.trans1 HF5.out⟩
          rw [HT2.out]
          have := HB5.out
          rw [show (T : Int) - ((tk + (x.length + 32) : Nat) : Int) = (T : Int) - (tk : Int) - ((x.length : Int) + 32) by omega]
          simpa [dskC] using this
        case measure => simp [intOf]; omega
      · have i1 : ¬ (k : Int) < ((lst.length - n : Nat) : Int) := by omega
        have hkn : k = lst.length - n := by omega
        subst hkn
        rw [List.take_of_length_le (by simp), tookL_cut] at hB
        have HB := Lib.hid hB
        have HF := Lib.hid hF
        clear hB hF
        go_wp2_with fail
        have hS : Has K 5 (.slice al lst.length cl) wr.drew := HB.out.cellAt rfl
        have d5 : ∀ W', Has K 5 (.slice al lst.length cl) W' → W'.cell? ⟨K, 5, none⟩ = some (.slice al lst.length cl) := fun _ h => h
        have q0 : (0 : Int) ≤ (n : Int) := by omega
        have q1 : (n : Int) ≤ (cl : Int) := by omega
        refine wp_region_ord (Has K 5 (.slice al lst.length cl)) [0,1,2,3,4,5,6,7,8,9,10,11,12,13,14,15,16,17,18,19] [13, 16, 19] [13, 16, 19] [7] mixed (by kernel_rfl) ?_
        simp only [pairs, pickN]
        repeat (first | (refine wpO_free ?_ (by rfl) (by rfl) (fun w' => ?_) ?_; rotate_left; (go_simp; rfl); simp only [Act.put, List.setIfInBounds_toArray, List.set_cons_zero, List.set_cons_succ]) | (refine wpO_take ?_ hS (by rfl) (by rfl) (fun w' hw' => ?_) ?_; rotate_left; (go_simp; rfl); simp only [Act.put, List.setIfInBounds_toArray, List.set_cons_zero, List.set_cons_succ]) | (refine wpO_pass (by rfl) ?_; simp only [Act.put, List.setIfInBounds_toArray, List.set_cons_zero, List.set_cons_succ]))
        refine wpO_eff (by rfl) ?_
        refine wpList_store1 rfl 31 _ _ rfl K 1 (.pointer (some ⟨q3, 0, none⟩)) (by rfl) (by rfl) rfl 44 _ (HB.out.drewN 1) (by simp [dskC]) (by kernel_rfl) rfl ?_
        intro w5 B5 F5 S5
        have HB5 := Lib.hid B5
        have HF5 := Lib.hid F5
        clear B5 F5 S5
        refine effQ_skip (by decide) ?_
        simp only [Act.put, List.setIfInBounds_toArray, List.set_cons_zero, List.set_cons_succ]
        repeat (first | (refine wpO_free ?_ (by rfl) (by rfl) (fun w' => ?_) ?_; rotate_left; (go_simp; rfl); simp only [Act.put, List.setIfInBounds_toArray, List.set_cons_zero, List.set_cons_succ]) | (refine wpO_pass (by rfl) ?_; simp only [Act.put, List.setIfInBounds_toArray, List.set_cons_zero, List.set_cons_succ]))
        refine wpO_eff (by rfl) ?_
        refine wpList_store1 rfl 23 _ _ rfl K 5 (.slice al n cl) (by rfl) (by rfl) rfl 44 _ HB5.out (by simp [dskC]) (by kernel_rfl) rfl ?_
        intro w6 B6 F6 S6
        have HB6 := Lib.hid B6
        have HF6 := Lib.hid F6
        clear B6 F6 S6
        refine effQ_skip (by decide) ?_
        simp only [Act.put, List.setIfInBounds_toArray, List.set_cons_zero, List.set_cons_succ]
        repeat (first | (refine wpO_free ?_ (by rfl) (by rfl) (fun w' => ?_) ?_; rotate_left; (go_simp; rfl); simp only [Act.put, List.setIfInBounds_toArray, List.set_cons_zero, List.set_cons_succ]) | (refine wpO_pass (by rfl) ?_; simp only [Act.put, List.setIfInBounds_toArray, List.set_cons_zero, List.set_cons_succ]))
        refine wpO_eff (by rfl) ?_
        refine wpList_store1 rfl 3 _ _ rfl K 6 (.int .i64 n) (by rfl) (by rfl) rfl 44 _ HB6.out (by simp [dskC]) (by kernel_rfl) rfl ?_
        intro w7 B7 F7 S7
        have HB7 := Lib.hid (show Blk w7 K 44 (dskC p q3 (16 * d.now.length - 1024) whole (.slice as0 snap.length cs0) (.slice al n cl) (n : Nat) (tookL snap (lst.take n) : Nat)) from B7)
        have HF7 := Lib.hid F7
        clear B7 F7 S7
        refine effQ_skip (by decide) ?_
        simp only [Act.put, List.setIfInBounds_toArray, List.set_cons_zero, List.set_cons_succ]
        refine wpO_nil ?_
        have HF37 : Hid (Fr [K] w3 w7) := Lib.hid ((((((HF4.out.trans0 HFC.out).ext (S := [K])).trans1 HF.out).drew.trans1 HF5.out).trans1 HF6.out).trans1 HF7.out)
        clear hS d5
        go_wp2_with fail
        go_ret
        refine ⟨rfl, ?_⟩
        obtain ⟨S3, K3, sn3, li3, ls3, fr3⟩ := HA.out
        have S7 := S3.desk K3 HF37.out
        have hKX : ∀ k ∈ [K], dkX K p bb q3 (.slice none 0 0) tl3 k ∨ w3.heap.size ≤ k := fun k hk => .inl (.inl (List.mem_singleton.1 hk))
        have hkw : W.heap.size ≤ K := HH.out.kb
        have hun := undo_length d keep
        refine ⟨p, bb, q3, .slice none 0 0, tl3, .slice as0 snap.length cs0, al, cl, us.take n, _, _, whole, snap, lst.take n, ⟨fr3.trans HF37.out (fun k hk hlt => by rw [List.mem_singleton.1 hk] at hlt; omega), S7, ?_, hkw, sn3.step HF37.out hKX (fun k hk => .inl hk), HH.out.ys, (li3.step HF37.out hKX (fun k hk => .inl hk)).takeN n, ⟨by rw [List.length_take]; omega, hcl2⟩, (ls3.step HF37.out hKX (fun k hk => .inl hk)).takeN n, fun x hx => HH.out.yl x (List.mem_of_mem_take hx), HP.out.2.2.2, ⟨by dsimp only; omega, by dsimp only; omega, by simp [D.calm], by rw [List.length_take]; omega⟩, by simp only [D.calm]; rw [hun]; exact HH.out.blk, HH.out.sl⟩⟩
        have h7 := HB7.out
        simp only [D.calm]
        rw [hun, List.length_take, Nat.min_eq_left n2]
        exact h7
end Go.Fur
