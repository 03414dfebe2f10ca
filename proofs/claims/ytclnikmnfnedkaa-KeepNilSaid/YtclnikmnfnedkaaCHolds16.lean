/- furlonglaw16.awake answers true, and turns nothing that was there. -/
import Derived.Test.YtclnikmnfnedkaaCKp25
import Derived.Test.YtclnikmnfnedkaaCSto6
import Derived.Test.YtclnikmnfnedkaaCDiskAll
namespace Go.Fur
open Go Go.RowKit Go.Proofs
set_option linter.unusedVariables false
set_option linter.unusedSimpArgs false
theorem undo_write (d : D) (n : Int) (l : List Int) : undo (d.write n l).2 0 = undo d 0 := by
  unfold D.write
  split
  · rfl
  · rename_i h1
    split
    · rfl
    · have hlt : n.toNat < d.now.length := by omega
      exact undo_snoc15 d n.toNat _ _ 0 (Nat.zero_le _) (by rw [List.getD_eq_getElem?_getD, List.getElem?_eq_getElem hlt]; rfl)
theorem undo_putP (gen life : Nat) : ∀ (f : Nat) (d : D) (tail : List Int) (i : Nat), undo (putP gen life f d tail i).1 0 = undo d 0
  | 0, d, tail, i => rfl
  | f + 1, d, tail, i => by
    unfold putP
    split
    · exact undo_write _ _ _
    · split
      · exact undo_write _ _ _
      · rw [undo_putP gen life f]
        exact undo_write _ _ _
theorem undo_appS (d : D) (s : St) (l : List Int) : undo (appS d s l).2.1 0 = undo d 0 := by
  unfold appS
  split
  · rfl
  · split
    · rfl
    · exact undo_putP _ _ _ _ _ _
theorem KdP.appU {n B N b : Nat} {d : D} {s : St} {k0 : KP} {rs : List RecK} (h : KdP n B N d s k0 rs) (hN : N ≤ 100000) {l : List Int} (hl : l.length ≤ b + 36) (hb : b ≤ 60000) (hfit : 2 * (B + b) + 100 * (N + 1) + 100 ≤ (n - 2) / 2 * 55) (k : KP) : undo (appK d s k l).2.1 0 = undo d 0 := by
  obtain ⟨whole, snap, hd, hw, hlen⟩ := h.desk
  have h1 := hd.pos.len
  have hn := h.len
  have hft : fitsB d s (l.length + 4) = true := by
    unfold fitsB
    rw [decide_eq_true_iff]
    unfold halfP
    rw [hn]
    omega
  have he : appK d s k l = appS d s l := by
    unfold appK
    rw [if_pos]
    unfold appS
    rw [if_neg (by omega), hft, if_neg (by simp)]
    show ¬ ((0 : Int) = 10)
    omega
  rw [he]
  exact undo_appS d s l
theorem KdP.putU {n B N b : Nat} {d : D} {s : St} {k0 : KP} {rs : List RecK} (h : KdP n B N d s k0 rs) (hN : N ≤ 100000) (i t : Int) {l : List Int} (hb : min l.length 300000 ≤ b) (hfit : 2 * (B + b) + 100 * (N + 1) + 100 ≤ (n - 2) / 2 * 55) (k : KP) : undo (putK d s k i t l).2.1 0 = undo d 0 := by
  by_cases hbad : i ≤ k.base ∨ k.last + 1 < i ∨ t < 0 ∨ 60000 < l.length
  · have e1 : putK d s k i t l = (1, d, s, k) := by unfold putK; rw [if_pos hbad]
    rw [e1]
  · have hu := h.appU (b := l.length) hN (l := recP i t l) (by have := recP_length i t l; omega) (by omega) (by omega) k
    unfold putK
    rw [if_neg hbad]
    split
    · exact hu
    · exact hu
/-- As Kd; what a crash leaves that keeps nothing is known: ks. -/
def KdS (W : World) (Z : Nat → Prop) (n B N p K : Nat) (k ks : KP) (w : World) : Prop :=
  ∃ F base bb q lv tl vs ve d s k0 rs lst, (W.heap.size ≤ base ∧ base ≤ w.heap.size ∧ Fr [] W w) ∧ (∀ b, F b → ¬ Z b) ∧ (∀ b, Z b → b < w.heap.size) ∧ KpAt w F base K p bb q lv tl vs ve d s k ∧ k = runK k0 rs ∧ KdL n B N d s k0 rs lst ∧
    ∃ dS sS k1 rsS, KdL n B N dS sS k1 rsS [ks] ∧ dS.wf ∧ undo d 0 = undo dS 0
theorem Kd.syncS {W w0 w : World} {Z : Nat → Prop} {n B N p K : Nat} {k : KP} {lst : List KP} (h : Kd W Z n B N p K k lst w0) (f : Fr [] w0 w) :
    Calls Try.prog 12 #[.pointer (some ⟨K, 0, none⟩)] w fun e w' => e = .returned (.int .i64 0) ∧ KdS W Z n B N p K k k w' := by
  have hz := f.size
  obtain ⟨F, base, bb, q, lv, tl, vs, ve, d, s, k0, rs, ⟨hb1, hb2, fW⟩, hFZ, hZ, hK, rfl, hL⟩ := h
  refine (ksync_calls (hK.fr0 f)).mono ?_
  rintro e w' ⟨rfl, F', lv', tl', vs', ve', hK', st, hFF⟩
  have hz2 := st.size
  refine ⟨rfl, F', base, bb, q, lv', tl', vs', ve', _, _, k0, rs, _, ⟨hb1, by omega, stp_fr (fW.trans0 f) st (fun b hb => by have := (hK.fl b hb).1; omega)⟩, fun b hb hz => ?_, fun b hb => by have := hZ b hb; omega, hK', rfl, hL.sync, _, _, _, _, hL.sync, hK'.sto.da.wf, rfl⟩
  rcases hFF b hb with h | h
  · exact hFZ b h hz
  · have := hZ b hz; omega
theorem KdS.put {W w0 w : World} {Z : Nat → Prop} {n B N b p K : Nat} {k ks : KP} (h : KdS W Z n B N p K k ks w0) (f : Fr [] w0 w) (hN : N ≤ 100000) (hB : B ≤ 1000000) (i t : Int) (hi : I64 i) (ht : I64 t)
    (a : Option Addr) (m c : Nat) (l : List Int) (hm : l.length = m) (hmc : m ≤ maxLen) (hr : RdA w (fun b => ¬ Z b ∧ W.heap.size ≤ b ∧ b < w0.heap.size) a (bv l)) (hl : Byt l) (hb : min l.length 300000 ≤ b) (hfit : 2 * (B + b) + 100 * (N + 1) + 100 ≤ (n - 2) / 2 * 55) :
    Calls Try.prog 10 #[.pointer (some ⟨K, 0, none⟩), .int .i64 i, .int .i64 t, .slice a m c] w fun e w' => e = .returned (.int .i64 (putR k i t l).1) ∧ KdS W Z n (B + b) (N + 1) p K (putR k i t l).2 ks w' := by
  have hz := f.size
  obtain ⟨F, base, bb, q, lv, tl, vs, ve, d, s, k0, rs, lst, ⟨hb1, hb2, fW⟩, hFZ, hZ, hK, rfl, hL, dS, sS, k1, rsS, hS1, hS2, hS3⟩ := h
  obtain ⟨a1, a2, rs', a3, a4⟩ := hL.put (i := i) hN ht hl hb hfit
  have hel := hL.kd.now.el
  have hu := hL.kd.putU hN i t hb hfit (runK k0 rs)
  refine (kput_calls (hK.fr0 f) (by omega) hL.kd.bud hN (by have := hL.kd.now.pack; omega) (by omega) i t hi ht a m c l hm hmc (Kd.args hb1 hFZ hK.fl hr) hl).mono ?_
  rintro e w' ⟨rfl, F', lv', tl', vs', ve', hK', st, hFF⟩
  rw [a2] at hK'
  have hz2 := st.size
  refine ⟨by rw [a1], F', base, bb, q, lv', tl', vs', ve', _, _, k0, rs', _, ⟨hb1, by omega, stp_fr (fW.trans0 f) st (fun b hb => by have := (hK.fl b hb).1; omega)⟩, fun b hb hz => ?_, fun b hb => by have := hZ b hb; omega, hK', a3, a4, dS, sS, k1, rsS, hS1.more (by omega) (by omega), hS2, hu.trans hS3⟩
  rcases hFF b hb with h | h
  · exact hFZ b h hz
  · have := hZ b hz; omega
theorem KdS.crash {W w0 w : World} {Z : Nat → Prop} {n B N p K : Nat} {k ks : KP} (h : KdS W Z n B N p K k ks w0) (f : Fr [] w0 w) (hN : N ≤ 100000) (hB : B ≤ 1000000) :
    Calls Try.prog 13 #[.pointer (some ⟨p, 0, none⟩), .int .i64 0] w fun e w1 => e = .returned (.int .i64 0) ∧
      ∀ w2, Fr [] w1 w2 → Calls Try.prog 14 #[.pointer (some ⟨p, 0, none⟩)] w2 fun e w3 => ∃ K', e = .returned (.tuple #[.pointer (some ⟨K', 0, none⟩), .int .i64 0]) ∧ Kd W (fun _ => False) n B (N + 1) p K' ks [ks] w3 := by
  have hz := f.size
  obtain ⟨F, base, bb, q, lv, tl, vs, ve, d, s, k0, rs, lst, ⟨hb1, hb2, fW⟩, hFZ, hZ, hK, rfl, hL, dS, sS, k1, rsS, hS1, hS2, hS3⟩ := h
  have hK1 := hK.fr0 f
  obtain ⟨rs', hok, hmem, hL'⟩ := hS1.lost hS2 hN (by omega) 0
  rw [← hS3] at hok hL'
  refine (crash_calls hK1.sto.da 0 (by omega)).mono ?_
  rintro e w1 ⟨rfl, D1, F1⟩
  have hpF : F p := hK.fX p (.inr (.inr (.inl (by simp))))
  have hbF : F bb := hK.fX bb (.inr (.inr (.inl (by simp))))
  have hS1 : ∀ b ∈ [p, bb], F b := fun b hb => by
    simp only [List.mem_cons, List.not_mem_nil, or_false] at hb
    rcases hb with rfl | rfl
    · exact hpF
    · exact hbF
  have hz1 := F1.size
  refine ⟨rfl, fun w2 f12 => ?_⟩
  have hz2 := f12.size
  have D2 := DiskAt.fr0 D1 f12
  refine (kopen_calls (F0 := fun b => b ∈ p :: bb :: ob (.slice none 0 0)) D2 ⟨undo_byt hK.sto.yd _, by simp⟩ hok (fun b hb => hb) (fun b hb => ⟨D2.ge b hb, D2.lt b hb⟩) (by omega)).mono ?_
  rintro e w3 ⟨K2, q2, tl2, vs2, ve2, rfl, hK2, st2⟩
  have hF0 : ∀ b, b ∈ p :: bb :: ob (.slice none 0 0) → F b := fun b hb => by
    simp only [List.mem_cons, ob_nil, List.not_mem_nil, or_false] at hb
    rcases hb with rfl | rfl
    · exact hpF
    · exact hbF
  have hz3 := st2.size
  have fW1 : Fr [] W w2 := (((fW.trans0 f).trans F1 (fun b hb hlt => by have := (hK.fl b (hS1 b hb)).1; omega)).trans0 f12)
  have hks : runK k1 rs' = ks := List.mem_singleton.1 hmem
  rw [hks] at hK2
  exact ⟨K2, rfl, _, base, bb, q2, _, tl2, vs2, ve2, _, _, k1, rs', ⟨hb1, by omega, stp_fr fW1 st2 (fun b hb => by have := (hK.fl b (hF0 b hb)).1; omega)⟩, fun b _ hz => hz, fun b hb => hb.elim, hK2, hks.symm, hks ▸ hL'⟩
theorem rdA_one16 (w : World) (t : TypeId) (X : Nat → Prop) (hX : ∀ k, X k → k < w.heap.size) (x : Int) : RdA (w.alloc (.cells #[.int .u8 x] t)) X (some ⟨w.heap.size, 0, none⟩) (bv [x]) := fun hn => by
  have := (Blk.new w t [Value.int .u8 x]).rd0 1
  obtain ⟨b, o, h1, h2⟩ := (show Rd (w.alloc (.cells #[.int .u8 x] t)) (some ⟨w.heap.size, 0, none⟩) (bv [x]) by simpa [bv] using this) hn
  cases h1
  exact ⟨_, _, rfl, fun hx => by have := hX _ hx; omega, by simp, h2⟩
theorem byt116 {x : Int} (h : 0 ≤ x) (h2 : x ≤ 255) : Byt [x] := fun y hy => by
  rw [List.mem_singleton.1 hy]
  omega
def aw1 : KP := { KP.new with term := 1, vote := 0 }
def aw2 : KP := { aw1 with es := [(1, [5])] }
def aw3 : KP := { aw1 with es := [(1, [5]), (1, [6])] }
theorem aw_v : voteE KP.new 1 0 = (0, aw1) := by decide
theorem aw_p1 : putR aw1 1 1 [5] = (0, aw2) := by decide
theorem aw_p2 : putR aw2 2 1 [6] = (0, aw3) := by decide
theorem aw_p3 : (putR aw3 2 2 [7]).1 = 0 := by decide
theorem aw_e : aw3.entry 2 = (1, [6], 0) := by decide
set_option maxRecDepth 100000 in
set_option maxHeartbeats 4000000 in
theorem awake_calls (w : World) : Calls Try.prog 7 #[] w fun e w' => e = .returned (.bool true) ∧ Fr [] w w' := by
  go_enter Try.func7, Try.ntmps7
  go_wp2_with fail
  refine (onNew_calls (Fr.refl [] w) 4000 (by omega) (by omega)).mono ?_
  rintro e w1 ⟨p, rfl, F1, hO⟩
  have HO := Lib.hid hO
  clear F1 hO
  dsimp only
  go_wp2_with fail
  refine (HO.out w1 (Fr.refl _ _)).mono ?_
  rintro e w2 ⟨K, rfl, hN⟩
  have H2 := Lib.hid (Kd.new hN)
  clear hN HO
  dsimp only
  go_wp2_with fail
  refine (Kd.vote H2.out (Fr.refl _ _) (by omega) (by omega) (by omega) 1 0 ⟨by decide, by decide⟩ ⟨by decide, by decide⟩).mono ?_
  rw [aw_v]
  rintro e w3 ⟨rfl, hN, _⟩
  have H3 := Lib.hid hN
  clear hN H2
  dsimp only
  go_wp2_with fail
  refine (Kd.put (b := 1) H3.out ((Fr.refl [] w3).alloc (.cells #[.int .u8 5] 5)) (by omega) (by omega) 1 1 ⟨by decide, by decide⟩ ⟨by decide, by decide⟩ _ 1 1 [5] rfl (by decide) (rdA_one16 w3 5 _ (fun k hk => hk.2.2) 5) (byt116 (by decide) (by decide)) (by simp) (by omega)).mono ?_
  rw [aw_p1]
  rintro e w4 ⟨rfl, hN, _⟩
  have H4 := Lib.hid hN
  clear hN H3
  dsimp only
  go_wp2_with fail
  refine (Kd.put (b := 1) H4.out ((Fr.refl [] w4).alloc (.cells #[.int .u8 6] 5)) (by omega) (by omega) 2 1 ⟨by decide, by decide⟩ ⟨by decide, by decide⟩ _ 1 1 [6] rfl (by decide) (rdA_one16 w4 5 _ (fun k hk => hk.2.2) 6) (byt116 (by decide) (by decide)) (by simp) (by omega)).mono ?_
  rw [aw_p2]
  rintro e w5 ⟨rfl, hN, _⟩
  have H5 := Lib.hid hN
  clear hN H4
  dsimp only
  go_wp2_with fail
  refine (Kd.syncS H5.out (Fr.refl _ _)).mono ?_
  rintro e w6 ⟨rfl, hN⟩
  have H6 := Lib.hid hN
  clear hN H5
  dsimp only
  go_wp2_with fail
  refine (KdS.put (b := 1) H6.out ((Fr.refl [] w6).alloc (.cells #[.int .u8 7] 5)) (by omega) (by omega) 2 2 ⟨by decide, by decide⟩ ⟨by decide, by decide⟩ _ 1 1 [7] rfl (by decide) (rdA_one16 w6 5 _ (fun k hk => hk.2.2) 7) (byt116 (by decide) (by decide)) (by simp) (by omega)).mono ?_
  rw [aw_p3]
  rintro e w7 ⟨rfl, hN⟩
  have H7 := Lib.hid hN
  clear hN H6
  dsimp only
  go_wp2_with fail
  refine (KdS.crash H7.out (Fr.refl _ _) (by omega) (by omega)).mono ?_
  rintro e w8 ⟨rfl, hN⟩
  have H8 := Lib.hid hN
  clear hN H7
  dsimp only
  go_wp2_with fail
  refine (H8.out w8 (Fr.refl _ _)).mono ?_
  rintro e w9 ⟨K9, rfl, hN⟩
  have H9 := Lib.hid hN
  obtain ⟨Y, q, vs, ve, hr⟩ := hN.rd
  have HR := Lib.hid hr
  clear hN H8 hr
  dsimp only
  go_wp2_with fail
  refine (kentry_calls HR.out 2 ⟨by decide, by decide⟩).mono ?_
  rw [aw_e]
  rintro e w10 ⟨v, rfl, O10, F10⟩
  obtain ⟨a10, c10, rfl, _, _, hrd⟩ := O10.form
  have HF10 := Lib.hid F10
  have HRD := Lib.hid hrd
  clear O10 F10 hrd
  dsimp only
  go_wp2_with fail
  have F11 := HF10.out.alloc (.cells #[.int .u8 6] 5)
  refine (bytes_calls _ a10 _ c10 1 1 1 [6] [6] rfl rfl (byt116 (by decide) (by decide)) (byt116 (by decide) (by decide)) ((show Rd w10 a10 (bv [6]) from HRD.out).fr0 ((Fr.refl [] w10).alloc (.cells #[.int .u8 6] 5))) ((rdA_one16 w10 5 (fun _ => False) (fun _ h => h.elim) 6).rd)).mono ?_
  rintro e w11 ⟨rfl, rfl⟩
  rw [show decide (([6] : List Int) = [6]) = true from rfl]
  generalize w10.alloc (.cells #[.int .u8 6] 5) = w11 at *
  have HF11 := Lib.hid F11
  clear F11
  dsimp only
  go_wp2_with fail
  refine (klast_calls (HR.out.fr0 HF11.out)).mono ?_
  rintro e w12 ⟨rfl, m, rfl⟩
  have HF12 := Lib.hid (HF11.out.drewN m)
  dsimp only
  rw [show aw3.last = 2 from by decide]
  generalize w11.drewN m = w12 at *
  go_wp2_with fail
  refine (kterm_calls (HR.out.fr0 HF12.out)).mono ?_
  rintro e w13 ⟨rfl, rfl⟩
  rw [show aw3.term = 1 from rfl]
  dsimp only
  go_wp2_with fail
  refine (kvoted_calls (HR.out.fr0 HF12.out)).mono ?_
  rintro e w14 ⟨rfl, rfl⟩
  rw [show aw3.vote = 0 from rfl]
  dsimp only
  go_wp2_with fail
  go_ret
  exact ⟨rfl, H9.out.fr.trans0 HF12.out⟩
end Go.Fur
namespace Go.Fur
open Go Go.RowKit Go.Proofs
set_option linter.unusedVariables false
set_option linter.unusedSimpArgs false
abbrev rInt : Rdr Int := intR .i64
abbrev rBytes : Rdr (SlV Int) := sliceR (intR .u8) 1
theorem sInt : Sound Try.prog 3 rInt := intR_sound Try.underlying3
theorem sBytes : Sound Try.prog 33 rBytes := sliceR_sound Try.underlying33 (by kernel_rfl) Nat.one_pos (by kernel_rfl) (intR_sound Try.underlying5)
abbrev rBss : Rdr (SlV (SlV Int)) := sliceR rBytes 24
abbrev rInts : Rdr (SlV Int) := sliceR rInt 8
theorem sBss : Sound Try.prog 22 rBss := sliceR_sound (k := 1) Try.underlying22 (by kernel_rfl) Nat.one_pos (by kernel_rfl) sBytes
theorem sInts : Sound Try.prog 23 rInts := sliceR_sound (k := 1) Try.underlying23 (by kernel_rfl) Nat.one_pos (by kernel_rfl) sInt
theorem int_ok {W : World} {x : Int} (h : rInt.ok W x) : -9223372036854775808 ≤ x ∧ x ≤ 9223372036854775807 := by
  simp only [intR, Lit.wf, decide_eq_true_eq] at h
  have h8 : IntKind.i64.min ≤ x ∧ x ≤ IntKind.i64.max := by simpa [IntKind.has] using h
  simp only [show IntKind.i64.min = -9223372036854775808 from rfl, show IntKind.i64.max = 9223372036854775807 from rfl] at h8
  exact h8
theorem int_i64 {W : World} {x : Int} (h : rInt.ok W x) : I64 x := by
  have := int_ok h
  unfold I64
  omega
abbrev Op16 : Type := Int × Int × Int × Int × SlV Int × Unit
abbrev rOp : Rdr Op16 := consR rInt (consR rInt (consR rInt (consR rInt (consR rBytes nilR))))
abbrev rOps : Rdr (SlV Op16) := sliceR rOp 56
theorem sOp : Sound Try.prog 44 rOp := structR Try.underlying44 (by kernel_rfl) (consF (k := 1) rfl (by kernel_rfl) sInt (consF (k := 1) rfl (by kernel_rfl) sInt (consF (k := 1) rfl (by kernel_rfl) sInt (consF (k := 1) rfl (by kernel_rfl) sInt (consF (k := 1) rfl (by kernel_rfl) sBytes (nilF _))))))
theorem sOps : Sound Try.prog 24 rOps := sliceR_sound (k := 5) Try.underlying24 (by kernel_rfl) (by decide) (by kernel_rfl) sOp
theorem op_zero : ∀ w, (zeroValue 44).run Try.prog w = .ok (.agg [.int .i64 0, .int .i64 0, .int .i64 0, .int .i64 0, .slice none 0 0].toArray) w := fun w => by kernel_rfl
theorem op_size : (Try.prog.info? 44).map (·.size) = some 5 := by kernel_rfl
/-- The bytes of a row of bytes that came in. -/
theorem bytes_ok {W : World} {p : SlV Int} (h : rBytes.ok W p) : Byt p.xs ∧ Rd W p.a (bv p.xs) ∧ p.xs.length ≤ p.cap ∧ p.cap ≤ 140737488351232 := by
  obtain ⟨h1, h2, h3, h4, h5, _⟩ := h
  refine ⟨fun x hx => ?_, ?_, h1, ?_⟩
  · have := h5 x hx
    simp only [intR, Lit.wf, decide_eq_true_eq] at this
    have h8 : IntKind.u8.min ≤ x ∧ x ≤ IntKind.u8.max := by simpa [IntKind.has] using this
    simp only [show IntKind.u8.min = 0 from rfl, show IntKind.u8.max = 255 from rfl] at h8
    omega
  · have e : flat (intR .u8).enc p.xs = bv p.xs := by
      unfold flat bv intR
      induction p.xs with
      | nil => rfl
      | cons x xs ih => simp only [List.flatMap_cons, List.map_cons, ih]; rfl
    rwa [e] at h4
  · have : reachBytes = 140737488351232 := by decide
    omega
theorem ops_at {W : World} {ops : SlV Op16} (h : rOps.ok W ops) (k : Nat) (o : Op16) (ho : ops.xs[k]? = some o) :
    ∃ b off, ops.a = some ⟨b, off, none⟩ ∧ W.rangeAt b (off + k * 5) [.int .i64 o.1, .int .i64 o.2.1, .int .i64 o.2.2.1, .int .i64 o.2.2.2.1, o.2.2.2.2.1.val] ∧ b < W.heap.size ∧ rBytes.ok W o.2.2.2.2.1 ∧ rInt.ok W o.1 ∧ rInt.ok W o.2.1 ∧ rInt.ok W o.2.2.1 ∧ rInt.ok W o.2.2.2.1 := by
  obtain ⟨h1, h2, h3, h4, h5, h6, h7⟩ := h
  have hlt : k < ops.xs.length := (List.getElem?_eq_some_iff.1 ho).1
  have hlen : ∀ x ∈ ops.xs, (rOp.enc x).length = 5 := fun x _ => rfl
  have hne : flat rOp.enc ops.xs ≠ [] := fun h0 => by
    have := flat_length rOp.enc 5 ops.xs hlen
    rw [h0] at this
    simp at this
    omega
  obtain ⟨b, off, ha, hr⟩ := h4 hne
  have hm := h5 o (List.mem_of_getElem? ho)
  refine ⟨b, off, ha, fun j v hv => ?_, ?_, hm.2.2.2.2.1, hm.1, hm.2.1, hm.2.2.1, hm.2.2.2.1⟩
  · have hp := flat_piece rOp.enc 5 ops.xs hlen k o ho
    have hv' : ((flat rOp.enc ops.xs).drop (k * 5))[j]? = some v := by
      have h8 : (((flat rOp.enc ops.xs).drop (k * 5)).take 5)[j]? = some v := by rw [hp]; exact hv
      rw [List.getElem?_take] at h8
      split at h8
      · exact h8
      · cases h8
    rw [List.getElem?_drop] at hv'
    have := hr (k * 5 + j) v hv'
    rwa [show off + k * 5 + j = off + (k * 5 + j) from by omega]
  · exact h7 _ ha (by omega)
theorem sl_at {α : Type} {r : Rdr α} {sz : Nat} {W : World} {l : SlV α} (h : (sliceR r sz).ok W l) (v : α → Value) (hv : ∀ x, r.enc x = [v x]) (k : Nat) (o : α) (ho : l.xs[k]? = some o) :
    ∃ b off, l.a = some ⟨b, off, none⟩ ∧ W.rangeAt b (off + k) [v o] ∧ b < W.heap.size ∧ r.ok W o := by
  obtain ⟨h1, h2, h3, h4, h5, h6, h7⟩ := h
  have hlt : k < l.xs.length := (List.getElem?_eq_some_iff.1 ho).1
  have hlen : ∀ x ∈ l.xs, (r.enc x).length = 1 := fun x _ => by rw [hv]; rfl
  have hne : flat r.enc l.xs ≠ [] := fun h0 => by
    have := flat_length r.enc 1 l.xs hlen
    rw [h0] at this
    simp at this
    omega
  obtain ⟨b, off, ha, hr⟩ := h4 hne
  refine ⟨b, off, ha, fun j u hu => ?_, ?_, h5 o (List.mem_of_getElem? ho)⟩
  · have hp := flat_piece r.enc 1 l.xs hlen k o ho
    rw [hv] at hp
    have hv' : ((flat r.enc l.xs).drop (k * 1))[j]? = some u := by
      have h8 : (((flat r.enc l.xs).drop (k * 1)).take 1)[j]? = some u := by rw [hp]; exact hu
      rw [List.getElem?_take] at h8
      split at h8
      · exact h8
      · cases h8
    rw [List.getElem?_drop, Nat.mul_one] at hv'
    have := hr (k + j) u hv'
    rwa [show off + k + j = off + (k + j) from by omega]
  · exact h7 _ ha (by omega)
theorem Rd.own {w : World} {a : Option Addr} {cs : List Value} (h : Rd w a cs) : RdA w (fun k => w.heap.size ≤ k) a cs := fun hn => by
  obtain ⟨b, o, ha, hr⟩ := h hn
  obtain ⟨b2, o2, ha2, hlt⟩ := h.lt hn
  rw [ha] at ha2
  cases ha2
  exact ⟨b, o, ha, by omega, hlt, hr⟩
theorem Dk16.fr {W w : World} {n B N x p : Nat} (h : Dk16 W n B N x p w) : Fr [] W w := by
  obtain ⟨K, k0, rs, lst, F, base, bb, q, lv, tl, vs, ve, d, s, h1, h2, h3, h4⟩ := h
  exact h1.2.2.2
theorem Dk16.base {W w1 w : World} {n B N x p : Nat} (h : Dk16 w1 n B N x p w) (f : Fr [] W w1) : Dk16 W n B N x p w := by
  have := f.size
  obtain ⟨K, k0, rs, lst, F, base, bb, q, lv, tl, vs, ve, d, s, h1, h2, h3, h4⟩ := h
  exact ⟨K, k0, rs, lst, F, base, bb, q, lv, tl, vs, ve, d, s, ⟨by omega, h1.2.1, by omega, f.trans0 h1.2.2.2⟩, h2, h3, h4⟩
end Go.Fur
namespace Go.Fur
open Go Go.RowKit Go.Proofs
set_option linter.unusedVariables false
set_option linter.unusedSimpArgs false
/-- Between the rounds: sum bytes, k calls. -/
def Ho16 (W : World) (x p m : Nat) (i sv : Value) (wr : World) : Prop := ∃ k B : Nat, k ≤ m ∧ k ≤ 120 ∧ B ≤ 290000 ∧ i = .int .i64 k ∧ sv = .int .i64 B ∧ Dk16 W 65536 B k x p wr
set_option maxRecDepth 100000 in
set_option maxHeartbeats 4000000 in
theorem KeepHolds_walk (W : World) (ops : SlV Op16) (hops : rOps.ok W ops) :
    Calls Try.prog 4 #[ops.val] W fun e w' => e = .returned (.bool true) ∧ Below W.heap.size W w' := by
  simp only [SlV.val]
  have HO := Lib.hid hops
  clear hops
  go_enter Try.func4, Try.ntmps4
  go_wp2_with fail
  refine (awake_calls W).mono ?_
  rintro e w1 ⟨rfl, F1⟩
  have HF1 := Lib.hid F1
  clear F1
  dsimp only
  go_wp2_with fail
  refine (begin_calls w1).mono ?_
  rintro e w2 ⟨p, K, g, M, rfl, hO, hG, hg1, hg2⟩
  have HON := Lib.hid (And.intro hO (And.intro hG (And.intro hg1 hg2)))
  clear hO hG hg1 hg2
  have hd3 : ∀ v ∈ [Value.pointer (some ⟨p, 0, none⟩), .pointer (some ⟨K, 0, none⟩), .slice (some ⟨g, 0, none⟩) 1 1], v.oneCell' = true := by simp [Value.oneCell']
  dsimp only
  go_wp2_with (first
    | (refine wpList_allocZ rfl 30 rfl _ desk_zero ?_; intro w3 B3 F3 S3)
    | (refine wpList_storeB rfl 30 _ _ rfl w2.heap.size 0 [.pointer (some ⟨p, 0, none⟩), .pointer (some ⟨K, 0, none⟩), .slice (some ⟨g, 0, none⟩) 1 1] (by rfl) (by rfl) 30 _ B3 (by simp [zD]) desk_size hd3 ?_; intro w4 B4 F4 S4; rw [splice_all _ _ (by rfl)] at B4; have hF24 : Fr [] w2 w4 := F3.trans F4 (fun x hx hlt => by simp at hx; omega); have HDK := Lib.hid (Dk16.new HON.out.1 HON.out.2.2.2 hF24 (HON.out.2.1.fr hF24 (by simp)) B4 (Nat.le_refl _)); clear B3 F3 S3 B4 F4 S4 hF24 HON))
  obtain ⟨x, hx⟩ : ∃ x, w2.heap.size = x := ⟨_, rfl⟩
  rw [hx] at HDK ⊢
  clear hx hd3
  have HDK' := Lib.hid (HDK.out.base HF1.out)
  clear HDK
  go_loopw [18, 5] (fun i sv wr => Ho16 W x p ops.xs.length i sv wr) (fun i _ _ => ops.xs.length - (intOf i).toNat)
  case atStart => exact ⟨0, 0, Nat.zero_le _, Nat.zero_le _, Nat.zero_le _, rfl, rfl, HDK'.out⟩
  case round =>
    obtain ⟨k, B, hk, hk2, hB, rfl, rfl, hD⟩ := hrel
    have HD := Lib.hid hD
    clear hD
    by_cases hlt : k < ops.xs.length
    · obtain ⟨o, ho⟩ : ∃ o, ops.xs[k]? = some o := ⟨_, List.getElem?_eq_getElem hlt⟩
      obtain ⟨b, off, ha, hr, hbl, hp, hi1, hi2, hi3, hi4⟩ := ops_at HO.out k o ho
      obtain ⟨pbt, pr, ple, pcap⟩ := bytes_ok hp
      obtain ⟨o1, o2, o3, o4, o5, o6⟩ := o
      simp only at hr pbt pr ple pcap hp hi1 hi2 hi3 hi4
      have hr2 := rangeAt_fr hr HD.out.fr (by simp)
      have i0 : (0 : Int) ≤ (k : Int) := by omega
      have i3 : (k : Int) < (ops.xs.length : Int) := by omega
      rw [ha]
      have HR := Lib.hid hr2
      have HP := Lib.hid pr.own
      have HY := Lib.hid (And.intro pbt (And.intro (int_i64 hi2) (And.intro (int_i64 hi3) (int_i64 hi4))))
      clear hr hr2 pr ha ho pbt hp hi1 hi2 hi3 hi4
      by_cases hbg : (300000 : Int) < (o5.xs.length : Int)
      · by_cases h120 : (120 : Int) ≤ (k : Int)
        · go_wp2_with (first
            | (refine wpList_loadB rfl 44 _ rfl wr.heap.size (by rfl) 44 [.int .i64 o1, .int .i64 o2, .int .i64 o3, .int .i64 o4, o5.val] _ HB4.out Try.underlying44 rfl (by exact op_size) ?_)
            | refine wpList_load_mid rfl 44 _ rfl b (off + k * 5) rfl [.int .i64 o1, .int .i64 o2, .int .i64 o3, .int .i64 o4, o5.val] _ HR.out Try.underlying44 rfl (by exact op_size) ?_
            | (refine wpList_allocZ rfl 44 rfl _ op_zero ?_; intro w3 B3 F3 S3)
            | (refine wpList_storeB rfl 44 _ _ rfl wr.heap.size 0 [.int .i64 o1, .int .i64 o2, .int .i64 o3, .int .i64 o4, o5.val] (by rfl) (by rfl) 44 _ B3 (by simp) (by exact op_size) (by simp [SlV.val, Value.oneCell']) ?_; intro w4 B4 F4 S4; rw [splice_all _ _ (by rfl)] at B4; have c2 : w4.cell? ⟨wr.heap.size, 4, none⟩ = some (.slice o5.a o5.xs.length o5.cap) := B4.cellAt rfl; have hG4 : Fr [] wr w4 := F3.trans F4 (fun x hx hlt => by simp at hx; omega); have HB4 := Lib.hid B4; have HP4 := Lib.hid (HP.out.step (HD.out.fr.trans0 hG4) (by simp) (fun _ h => .inl h)); have HD4 := Lib.hid (HD.out.fr0 hG4); clear B3 F3 S3 B4 F4 S4 hG4 HD))
          refine (dcrash_calls HD4.out (by omega) (by omega) 0 (by omega)).mono ?_
          rintro e w8 ⟨rfl, D8⟩
          have HD8 := Lib.hid D8
          clear D8
          dsimp only
          go_wp2_with fail
          refine (dcrash_calls HD8.out (by omega) (by omega) 3 (by omega)).mono ?_
          rintro e w9 ⟨rfl, D9⟩
          have HD9 := Lib.hid D9
          clear D9
          dsimp only
          go_wp2_with fail
          go_ret
          exact ⟨rfl, HD9.out.fr.below (Nat.le_refl _) (by simp)⟩
        · have hbig : (290000 : Int) < (B : Int) + 300000 := by omega
          go_wp2_with (first
            | (refine wpList_loadB rfl 44 _ rfl wr.heap.size (by rfl) 44 [.int .i64 o1, .int .i64 o2, .int .i64 o3, .int .i64 o4, o5.val] _ HB4.out Try.underlying44 rfl (by exact op_size) ?_)
            | refine wpList_load_mid rfl 44 _ rfl b (off + k * 5) rfl [.int .i64 o1, .int .i64 o2, .int .i64 o3, .int .i64 o4, o5.val] _ HR.out Try.underlying44 rfl (by exact op_size) ?_
            | (refine wpList_allocZ rfl 44 rfl _ op_zero ?_; intro w3 B3 F3 S3)
            | (refine wpList_storeB rfl 44 _ _ rfl wr.heap.size 0 [.int .i64 o1, .int .i64 o2, .int .i64 o3, .int .i64 o4, o5.val] (by rfl) (by rfl) 44 _ B3 (by simp) (by exact op_size) (by simp [SlV.val, Value.oneCell']) ?_; intro w4 B4 F4 S4; rw [splice_all _ _ (by rfl)] at B4; have c2 : w4.cell? ⟨wr.heap.size, 4, none⟩ = some (.slice o5.a o5.xs.length o5.cap) := B4.cellAt rfl; have hG4 : Fr [] wr w4 := F3.trans F4 (fun x hx hlt => by simp at hx; omega); have HB4 := Lib.hid B4; have HP4 := Lib.hid (HP.out.step (HD.out.fr.trans0 hG4) (by simp) (fun _ h => .inl h)); have HD4 := Lib.hid (HD.out.fr0 hG4); clear B3 F3 S3 B4 F4 S4 hG4 HD))
          refine (dcrash_calls HD4.out (by omega) (by omega) 0 (by omega)).mono ?_
          rintro e w8 ⟨rfl, D8⟩
          have HD8 := Lib.hid D8
          clear D8
          dsimp only
          go_wp2_with fail
          refine (dcrash_calls HD8.out (by omega) (by omega) 3 (by omega)).mono ?_
          rintro e w9 ⟨rfl, D9⟩
          have HD9 := Lib.hid D9
          clear D9
          dsimp only
          go_wp2_with fail
          go_ret
          exact ⟨rfl, HD9.out.fr.below (Nat.le_refl _) (by simp)⟩
      · by_cases h120 : (120 : Int) ≤ (k : Int)
        · go_wp2_with (first
            | (refine wpList_loadB rfl 44 _ rfl wr.heap.size (by rfl) 44 [.int .i64 o1, .int .i64 o2, .int .i64 o3, .int .i64 o4, o5.val] _ HB4.out Try.underlying44 rfl (by exact op_size) ?_)
            | refine wpList_load_mid rfl 44 _ rfl b (off + k * 5) rfl [.int .i64 o1, .int .i64 o2, .int .i64 o3, .int .i64 o4, o5.val] _ HR.out Try.underlying44 rfl (by exact op_size) ?_
            | (refine wpList_allocZ rfl 44 rfl _ op_zero ?_; intro w3 B3 F3 S3)
            | (refine wpList_storeB rfl 44 _ _ rfl wr.heap.size 0 [.int .i64 o1, .int .i64 o2, .int .i64 o3, .int .i64 o4, o5.val] (by rfl) (by rfl) 44 _ B3 (by simp) (by exact op_size) (by simp [SlV.val, Value.oneCell']) ?_; intro w4 B4 F4 S4; rw [splice_all _ _ (by rfl)] at B4; have c2 : w4.cell? ⟨wr.heap.size, 4, none⟩ = some (.slice o5.a o5.xs.length o5.cap) := B4.cellAt rfl; have hG4 : Fr [] wr w4 := F3.trans F4 (fun x hx hlt => by simp at hx; omega); have HB4 := Lib.hid B4; have HP4 := Lib.hid (HP.out.step (HD.out.fr.trans0 hG4) (by simp) (fun _ h => .inl h)); have HD4 := Lib.hid (HD.out.fr0 hG4); clear B3 F3 S3 B4 F4 S4 hG4 HD))
          refine (dcrash_calls HD4.out (by omega) (by omega) 0 (by omega)).mono ?_
          rintro e w8 ⟨rfl, D8⟩
          have HD8 := Lib.hid D8
          clear D8
          dsimp only
          go_wp2_with fail
          refine (dcrash_calls HD8.out (by omega) (by omega) 3 (by omega)).mono ?_
          rintro e w9 ⟨rfl, D9⟩
          have HD9 := Lib.hid D9
          clear D9
          dsimp only
          go_wp2_with fail
          go_ret
          exact ⟨rfl, HD9.out.fr.below (Nat.le_refl _) (by simp)⟩
        · by_cases hbig : (290000 : Int) < (B : Int) + (o5.xs.length : Int)
          · go_wp2_with (first
              | (refine wpList_loadB rfl 44 _ rfl wr.heap.size (by rfl) 44 [.int .i64 o1, .int .i64 o2, .int .i64 o3, .int .i64 o4, o5.val] _ HB4.out Try.underlying44 rfl (by exact op_size) ?_)
              | refine wpList_load_mid rfl 44 _ rfl b (off + k * 5) rfl [.int .i64 o1, .int .i64 o2, .int .i64 o3, .int .i64 o4, o5.val] _ HR.out Try.underlying44 rfl (by exact op_size) ?_
              | (refine wpList_allocZ rfl 44 rfl _ op_zero ?_; intro w3 B3 F3 S3)
              | (refine wpList_storeB rfl 44 _ _ rfl wr.heap.size 0 [.int .i64 o1, .int .i64 o2, .int .i64 o3, .int .i64 o4, o5.val] (by rfl) (by rfl) 44 _ B3 (by simp) (by exact op_size) (by simp [SlV.val, Value.oneCell']) ?_; intro w4 B4 F4 S4; rw [splice_all _ _ (by rfl)] at B4; have c2 : w4.cell? ⟨wr.heap.size, 4, none⟩ = some (.slice o5.a o5.xs.length o5.cap) := B4.cellAt rfl; have hG4 : Fr [] wr w4 := F3.trans F4 (fun x hx hlt => by simp at hx; omega); have HB4 := Lib.hid B4; have HP4 := Lib.hid (HP.out.step (HD.out.fr.trans0 hG4) (by simp) (fun _ h => .inl h)); have HD4 := Lib.hid (HD.out.fr0 hG4); clear B3 F3 S3 B4 F4 S4 hG4 HD))
            refine (dcrash_calls HD4.out (by omega) (by omega) 0 (by omega)).mono ?_
            rintro e w8 ⟨rfl, D8⟩
            have HD8 := Lib.hid D8
            clear D8
            dsimp only
            go_wp2_with fail
            refine (dcrash_calls HD8.out (by omega) (by omega) 3 (by omega)).mono ?_
            rintro e w9 ⟨rfl, D9⟩
            have HD9 := Lib.hid D9
            clear D9
            dsimp only
            go_wp2_with fail
            go_ret
            exact ⟨rfl, HD9.out.fr.below (Nat.le_refl _) (by simp)⟩
          · go_wp2_with (first
              | (refine wpList_loadB rfl 44 _ rfl wr.heap.size (by rfl) 44 [.int .i64 o1, .int .i64 o2, .int .i64 o3, .int .i64 o4, o5.val] _ HB4.out Try.underlying44 rfl (by exact op_size) ?_)
              | refine wpList_load_mid rfl 44 _ rfl b (off + k * 5) rfl [.int .i64 o1, .int .i64 o2, .int .i64 o3, .int .i64 o4, o5.val] _ HR.out Try.underlying44 rfl (by exact op_size) ?_
              | (refine wpList_allocZ rfl 44 rfl _ op_zero ?_; intro w3 B3 F3 S3)
              | (refine wpList_storeB rfl 44 _ _ rfl wr.heap.size 0 [.int .i64 o1, .int .i64 o2, .int .i64 o3, .int .i64 o4, o5.val] (by rfl) (by rfl) 44 _ B3 (by simp) (by exact op_size) (by simp [SlV.val, Value.oneCell']) ?_; intro w4 B4 F4 S4; rw [splice_all _ _ (by rfl)] at B4; have c2 : w4.cell? ⟨wr.heap.size, 4, none⟩ = some (.slice o5.a o5.xs.length o5.cap) := B4.cellAt rfl; have hG4 : Fr [] wr w4 := F3.trans F4 (fun x hx hlt => by simp at hx; omega); have HB4 := Lib.hid B4; have HP4 := Lib.hid (HP.out.step (HD.out.fr.trans0 hG4) (by simp) (fun _ h => .inl h)); have HD4 := Lib.hid (HD.out.fr0 hG4); clear B3 F3 S3 B4 F4 S4 hG4 HD))
            refine (do16_calls (b := o5.xs.length) HD4.out (by omega) (by omega) (by omega) o1 o2 o3 o4 HY.out.2.1 HY.out.2.2.1 HY.out.2.2.2 o5.a o5.xs.length o5.cap o5.xs rfl (by unfold maxLen; omega) HP4.out HY.out.1 (by omega) (by omega)).mono ?_
            rintro e w5 ⟨rfl, D5⟩
            have HD5 := Lib.hid D5
            clear D5
            dsimp only
            go_wp2_with fail
            go_roundw
            case rel => exact ⟨k + 1, B + o5.xs.length, by omega, by omega, by omega, by go_num, by go_num, HD5.out⟩
            case measure => simp [intOf]; omega
    · have i3 : ¬ (k : Int) < (ops.xs.length : Int) := by omega
      go_wp2_with fail
      refine (dcrash_calls HD.out (by omega) (by omega) 0 (by omega)).mono ?_
      rintro e w8 ⟨rfl, D8⟩
      have HD8 := Lib.hid D8
      clear D8
      dsimp only
      go_wp2_with fail
      refine (dcrash_calls HD8.out (by omega) (by omega) 3 (by omega)).mono ?_
      rintro e w9 ⟨rfl, D9⟩
      have HD9 := Lib.hid D9
      clear D9
      dsimp only
      go_wp2_with fail
      go_ret
      exact ⟨rfl, HD9.out.fr.below (Nat.le_refl _) (by simp)⟩
end Go.Fur
