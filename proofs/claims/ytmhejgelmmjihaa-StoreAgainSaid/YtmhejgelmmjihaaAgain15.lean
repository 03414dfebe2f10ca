/- StoreAgain: the walk. -/
import Derived.Test.YtmhejgelmmjihaaHolds15
namespace Go.Fur
open Go Go.RowKit Go.Proofs
set_option linter.unusedVariables false
set_option linter.unusedSimpArgs false
/-- Between the rounds: the desk's block, and a store on its disk. -/
structure AgAt (W : World) (K n p bb q q0 : Nat) (size : Int) (whole : Bool) (as0 : Option Addr) (cs0 : Nat) (al : Option Addr) (cl : Nat) (us : List Value) (sf tk : Int) (snap : List Int) (lst : List (List Int)) (N : Nat) (w : World) : Prop where
  sd : Sd W N n p bb q whole snap lst w
  hk : Blk w K 44 (dskC p q0 size whole (.slice as0 snap.length cs0) (.slice al lst.length cl) sf tk)
  kp : K ≠ p
  sn : RdA w (fun k => k = p) as0 (bv snap)
  li : RdA w (fun k => k = p) al us
  ls : AllB w (fun k => k = p) us lst
def AgR (W : World) (K n p bb q0 : Nat) (size : Int) (whole : Bool) (as0 : Option Addr) (cs0 : Nat) (al : Option Addr) (cl : Nat) (us : List Value) (sf tk : Int) (snap : List Int) (lst : List (List Int)) (N : Nat) (i : Value) (wr : World) : Prop :=
  ∃ k q : Nat, k ≤ 3 ∧ i = .int .i64 k ∧ AgAt W K n p bb q q0 size whole as0 cs0 al cl us sf tk snap lst (N + k) wr
set_option maxRecDepth 100000 in
set_option maxHeartbeats 8000000 in
theorem StoreAgain_walk (W : World) (n0 : Int) (hn0 : rInt.ok W n0) (ops : SlV Op15) (hops : rOps.ok W ops) :
    Calls Try.prog 7 #[.int .i64 n0, ops.val] W fun e w' => e = .returned (.bool true) ∧ Below W.heap.size W w' := by
  simp only [SlV.val]
  obtain ⟨i1, i2⟩ := int_ok hn0
  have HO := Lib.hid hops
  clear hn0 hops
  go_enter Try.func7, Try.ntmps7
  go_wp2_with fail
  refine (awake_calls W).mono ?_
  rintro e w1 ⟨rfl, F1⟩
  have HF1 := Lib.hid F1
  clear F1
  dsimp only
  go_wp2_with fail
  refine (blocksN_calls w1 n0 i1 i2).mono ?_
  rintro e w1' ⟨rfl, rfl⟩
  dsimp only
  obtain ⟨b1, b2⟩ := blocksN_bnd n0
  generalize blocksN n0 = n at *
  go_wp2_with fail
  refine (begin_calls w1 n b1 (by omega)).mono ?_
  rintro e w2 ⟨p, bb, q, lv, tl, d, s, rfl, S2, D2, hn, hg, hl, hlo, hsf, F2⟩
  have hw1 := HF1.out.size
  have HS2 := Lib.hid (And.intro (S2.wbase hw1) (And.intro D2 (And.intro hn (And.intro hg (And.intro hl (And.intro hlo hsf))))))
  have HF2 := Lib.hid (HF1.out.trans0 F2)
  clear S2 D2 hn hg hl hlo hsf F2
  have hd8 : ∀ v ∈ dskC p q (16 * n - 1024) false (.slice none 0 0) (.slice none 0 0) 0 0, v.oneCell' = true := by simp [dskC, Value.oneCell']
  dsimp only
  go_upto_block 0 with (first
    | (refine wpList_allocZ rfl 44 rfl _ desk_zero ?_; intro w3 B3 F3 S3)
    | (refine wpList_storeB rfl 44 _ _ rfl w2.heap.size 0 (dskC p q (16 * n - 1024) false (.slice none 0 0) (.slice none 0 0) 0 0) (by rfl) (by rfl) 44 _ B3 (by simp [dskC]) desk_size hd8 ?_; intro w4 B4 F4 S4; rw [splice_all _ _ (by rfl)] at B4; have hF24 : Fr [] w2 w4 := F3.trans F4 (fun x hx hlt => by simp at hx; omega); have HDK := Lib.hid (dk_new HF2.out HS2.out.1 HS2.out.2.1 HS2.out.2.2.1 HS2.out.2.2.2.1 HS2.out.2.2.2.2.1 HS2.out.2.2.2.2.2.1 HS2.out.2.2.2.2.2.2 hF24 B4 (Nat.le_refl _) b1 (by omega)); clear B3 F3 S3 B4 F4 S4 hF24 HS2))
  obtain ⟨K, hK⟩ : ∃ K, w2.heap.size = K := ⟨_, rfl⟩
  rw [hK] at HDK ⊢
  clear hK hd8
  go_cut [4, 7, 8] from 22 to 40 (fun s4 s7 s8 wx => ∃ N, N ≤ 150 ∧ Dk W K N wx)
  case first =>
    go_wp2_with fail
    go_loopw [24] (fun i wr => HoR W K ops.xs.length i wr) (fun i _ => ops.xs.length - (intOf i).toNat)
    case atStart => exact ⟨0, Nat.zero_le _, Nat.zero_le _, rfl, HDK.out⟩
    case round =>
      obtain ⟨k, hk, hk2, rfl, hD⟩ := hrel
      have HD := Lib.hid hD
      clear hD
      by_cases hlt : k < ops.xs.length
      · obtain ⟨o, ho⟩ : ∃ o, ops.xs[k]? = some o := ⟨_, List.getElem?_eq_getElem hlt⟩
        obtain ⟨b, off, ha, hr, hbl, hp, hi1, hi2⟩ := ops_at HO.out k o ho
        obtain ⟨pbt, pr, ple, pcap⟩ := bytes_ok hp
        obtain ⟨o1, o2, o3, o4⟩ := o
        simp only at hr pbt pr ple pcap hp hi1 hi2
        obtain ⟨_, hi4⟩ := int_ok hi2
        have hr2 := rangeAt_fr hr HD.out.fr (by simp)
        have i0 : (0 : Int) ≤ (k : Int) := by omega
        have i3 : (k : Int) < (ops.xs.length : Int) := by omega
        rw [ha]
        have HR := Lib.hid hr2
        have HP := Lib.hid pr.own
        have HY := Lib.hid pbt
        have HAA := Lib.hid ha
        clear hr hr2 pr ha ho pbt hp hi1 hi2
        by_cases h100 : (100 : Int) ≤ (k : Int)
        · go_wp2_with (first
            | (refine wpList_loadB rfl 52 _ rfl wr.heap.size (by rfl) 52 [.int .i64 o1, .int .i64 o2, o3.val] _ HB4.out Try.underlying52 rfl (by exact op_size) ?_)
            | refine wpList_load_mid rfl 52 _ rfl b (off + k * 3) rfl [.int .i64 o1, .int .i64 o2, o3.val] _ HR.out Try.underlying52 rfl (by exact op_size) ?_
            | (refine wpList_allocZ rfl 52 rfl _ op_zero ?_; intro w3 B3 F3 S3)
            | (refine wpList_storeB rfl 52 _ _ rfl wr.heap.size 0 [.int .i64 o1, .int .i64 o2, o3.val] (by rfl) (by rfl) 52 _ B3 (by simp) (by exact op_size) (by simp [SlV.val, Value.oneCell']) ?_; intro w4 B4 F4 S4; rw [splice_all _ _ (by rfl)] at B4; have c2 : w4.cell? ⟨wr.heap.size, 2, none⟩ = some (.slice o3.a o3.xs.length o3.cap) := B4.cellAt rfl; have hG4 : Fr [] wr w4 := F3.trans F4 (fun x hx hlt => by simp at hx; omega); have HB4 := Lib.hid B4; have HP4 := Lib.hid (HP.out.fr0 (HD.out.fr.trans0 hG4)); have HD4 := Lib.hid (HD.out.fr0 hG4); clear B3 F3 S3 B4 F4 S4 hG4 HD))
          rw [← HAA.out]
          go_meet
          exact ⟨k, by omega, HD4.out⟩
        · by_cases hbig : (1048576 : Int) < (o3.xs.length : Int)
          · go_wp2_with (first
              | (refine wpList_loadB rfl 52 _ rfl wr.heap.size (by rfl) 52 [.int .i64 o1, .int .i64 o2, o3.val] _ HB4.out Try.underlying52 rfl (by exact op_size) ?_)
              | refine wpList_load_mid rfl 52 _ rfl b (off + k * 3) rfl [.int .i64 o1, .int .i64 o2, o3.val] _ HR.out Try.underlying52 rfl (by exact op_size) ?_
              | (refine wpList_allocZ rfl 52 rfl _ op_zero ?_; intro w3 B3 F3 S3)
              | (refine wpList_storeB rfl 52 _ _ rfl wr.heap.size 0 [.int .i64 o1, .int .i64 o2, o3.val] (by rfl) (by rfl) 52 _ B3 (by simp) (by exact op_size) (by simp [SlV.val, Value.oneCell']) ?_; intro w4 B4 F4 S4; rw [splice_all _ _ (by rfl)] at B4; have c2 : w4.cell? ⟨wr.heap.size, 2, none⟩ = some (.slice o3.a o3.xs.length o3.cap) := B4.cellAt rfl; have hG4 : Fr [] wr w4 := F3.trans F4 (fun x hx hlt => by simp at hx; omega); have HB4 := Lib.hid B4; have HP4 := Lib.hid (HP.out.fr0 (HD.out.fr.trans0 hG4)); have HD4 := Lib.hid (HD.out.fr0 hG4); clear B3 F3 S3 B4 F4 S4 hG4 HD))
            rw [← HAA.out]
            go_meet
            exact ⟨k, by omega, HD4.out⟩
          · go_wp2_with (first
              | (refine wpList_loadB rfl 52 _ rfl wr.heap.size (by rfl) 52 [.int .i64 o1, .int .i64 o2, o3.val] _ HB4.out Try.underlying52 rfl (by exact op_size) ?_)
              | refine wpList_load_mid rfl 52 _ rfl b (off + k * 3) rfl [.int .i64 o1, .int .i64 o2, o3.val] _ HR.out Try.underlying52 rfl (by exact op_size) ?_
              | (refine wpList_allocZ rfl 52 rfl _ op_zero ?_; intro w3 B3 F3 S3)
              | (refine wpList_storeB rfl 52 _ _ rfl wr.heap.size 0 [.int .i64 o1, .int .i64 o2, o3.val] (by rfl) (by rfl) 52 _ B3 (by simp) (by exact op_size) (by simp [SlV.val, Value.oneCell']) ?_; intro w4 B4 F4 S4; rw [splice_all _ _ (by rfl)] at B4; have c2 : w4.cell? ⟨wr.heap.size, 2, none⟩ = some (.slice o3.a o3.xs.length o3.cap) := B4.cellAt rfl; have hG4 : Fr [] wr w4 := F3.trans F4 (fun x hx hlt => by simp at hx; omega); have HB4 := Lib.hid B4; have HP4 := Lib.hid (HP.out.fr0 (HD.out.fr.trans0 hG4)); have HD4 := Lib.hid (HD.out.fr0 hG4); clear B3 F3 S3 B4 F4 S4 hG4 HD))
            refine (ddo_calls HD4.out (by omega) o1 o2 hi4 o3.a o3.xs.length o3.cap o3.xs rfl HP4.out HY.out (by unfold maxLen; omega)).mono ?_
            rintro e w5 ⟨rfl, D5⟩
            have HD5 := Lib.hid D5
            clear D5
            dsimp only
            go_wp2_with fail
            go_roundw
            case rel => exact ⟨k + 1, by omega, by omega, by go_num, HD5.out⟩
            case measure => simp [intOf]; omega
      · have i3 : ¬ (k : Int) < (ops.xs.length : Int) := by omega
        go_wp2_with fail
        go_meet
        exact ⟨k, by omega, HD.out⟩
  case rest =>
    obtain ⟨N, hN, hD⟩ := hcut
    obtain ⟨p1, bb1, q1, lv1, tl1, vs1, al, cl, us, d1, s1, whole, snap, lst, h1⟩ := hD
    obtain ⟨as0, cs0, hsv, hsr, hsc1, hsc2⟩ := h1.sn
    subst hsv
    have hp1 : dkX K p1 bb1 q1 lv1 tl1 p1 := .inr (.inr (.inl (by simp)))
    have hA0 : AgAt W K d1.now.length p1 bb1 q1 q1 (16 * d1.now.length - 1024) whole as0 cs0 al cl us s1.safe (tookL snap lst) snap lst N wc :=
      ⟨⟨lv1, tl1, d1, s1, h1.fr, h1.sto, h1.dk, h1.few, rfl⟩, h1.hk, fun e => h1.kn (by rw [e]; exact .inr (.inl (by simp))), hsr.step (Fr.refl [] wc) (by simp) (fun k hk => .inl (by rw [hk]; exact hp1)), h1.li.step (Fr.refl [] wc) (by simp) (fun k hk => .inl (by rw [hk]; exact hp1)), h1.ls.step (Fr.refl [] wc) (by simp) (fun k hk => .inl (by rw [hk]; exact hp1))⟩
    have HY := Lib.hid (And.intro h1.ys h1.yl)
    have hlc : lst.length ≤ cl := h1.cap.1
    have hcl2 : cl ≤ maxLen := h1.cap.2
    have HA := Lib.hid hA0
    generalize (16 * (d1.now.length : Int) - 1024) = size at HA
    generalize (s1.safe : Int) = sf at HA
    generalize (tookL snap lst : Int) = tk at HA
    generalize d1.now.length = n1 at HA
    clear h1 hsr hA0 hp1 hsc1 hsc2
    go_wp2_with fail
    go_loopw [41] (fun i wr => AgR W K n1 p1 bb1 q1 size whole as0 cs0 al cl us sf tk snap lst N i wr) (fun i _ => 3 - (intOf i).toNat)
    case atStart => exact ⟨0, q1, by omega, rfl, HA.out⟩
    case round =>
      obtain ⟨k, q, hk, rfl, hr⟩ := hrel
      have HR := Lib.hid hr
      clear hr
      by_cases hlt : k < 3
      · have i3 : (k : Int) < 3 := by omega
        have c0 : wr.cell? ⟨K, 0, none⟩ = some (.pointer (some ⟨p1, 0, none⟩)) := HR.out.hk.cellAt rfl
        go_wp2_with fail
        refine (HR.out.sd.again (by omega) HY.out.1 HY.out.2).mono ?_
        rintro e w5 ⟨q', vs, vr, tl', m1, m2, d', o, rfl, O5, os, ol, S5, F5, _⟩
        obtain ⟨av, cv, rfl, _, _, hv3⟩ := O5.sn.form
        obtain ⟨ur, hur, hul, hua⟩ := O5.rs
        obtain ⟨ar, cr, rfl, hr1, hr2, hr3⟩ := hur.form
        have hq5 := O5.hq
        rw [os] at hv3 ⊢
        rw [ol] at hul hua hq5 hr1 hur ⊢
        have alr : AllB w5 (fun _ => False) ur lst := ⟨hul, fun j v l h1 h2 => (hua j v l h1 h2).1.bs rfl (fun _ _ h => h)⟩
        have hk5 := HR.out.hk.fr F5 (by rw [List.mem_singleton]; exact HR.out.kp)
        have hS5 : ∀ k ∈ [p1], (fun k => k = p1) k ∨ wr.heap.size ≤ k := fun k hk => .inl (List.mem_singleton.1 hk)
        have sn5 := HR.out.sn.step F5 hS5 (X' := fun k => k = p1) (fun k hk => .inl hk)
        have li5 := HR.out.li.step F5 hS5 (X' := fun k => k = p1) (fun k hk => .inl hk)
        have ls5 := HR.out.ls.step F5 hS5 (X' := fun k => k = p1) (fun k hk => .inl hk)
        have HS5 := Lib.hid (show AgAt W K n1 p1 bb1 q' q1 size whole as0 cs0 al cl us sf tk snap lst (N + (k + 1)) w5 from ⟨S5, hk5, HR.out.kp, sn5, li5, ls5⟩)
        have HV := Lib.hid (And.intro hv3 (And.intro (hur.rdS (X := fun _ => False) (fun _ _ h => h)).1 (And.intro alr hq5)))
        clear hv3 hur hul hua hr3 hq5 alr hk5 hS5 sn5 li5 ls5 S5 O5 F5 c0 HR
        dsimp only
        go_wp2_with fail
        have F6 := (Fr.refl [] w5).alloc (.cells #[.bool whole, .slice av snap.length cv, .slice ar lst.length cr] 33)
        have G6 : Blk (w5.alloc (.cells #[.bool whole, .slice av snap.length cv, .slice ar lst.length cr] 33)) w5.heap.size 33 [.bool whole, .slice av snap.length cv, .slice ar lst.length cr] := Blk.new w5 33 _
        generalize w5.alloc (.cells #[.bool whole, .slice av snap.length cv, .slice ar lst.length cr] 33) = w6 at *
        obtain ⟨g, hg⟩ : ∃ g, w5.heap.size = g := ⟨_, rfl⟩
        rw [hg] at G6 ⊢
        have k6 := HS5.out.hk.fr F6 (by simp)
        have d3 : w6.cell? ⟨K, 3, none⟩ = some (.bool whole) := k6.cellAt rfl
        have d4 : w6.cell? ⟨K, 4, none⟩ = some (.slice as0 snap.length cs0) := k6.cellAt rfl
        have d5 : w6.cell? ⟨K, 5, none⟩ = some (.slice al lst.length cl) := k6.cellAt rfl
        have g0 : w6.cell? ⟨g, 0, none⟩ = some (.bool whole) := G6.cellAt rfl
        have g1 : w6.cell? ⟨g, 1, none⟩ = some (.slice av snap.length cv) := G6.cellAt rfl
        have g2 : w6.cell? ⟨g, 2, none⟩ = some (.slice ar lst.length cr) := G6.cellAt rfl
        have hcn : lst.length ≤ maxLen := Nat.le_trans hr1 hr2
        have hww : (whole != whole) = false := by simp
        have HF6 := Lib.hid F6
        clear k6 G6 F6 hg
        have HQ1 : Hid (∀ j, Calls Try.prog 18 #[.slice av snap.length cv, .slice as0 snap.length cs0] (w6.drewN j) fun e w' => e = .returned (.bool true) ∧ ∃ m, w' = w6.drewN m) := Lib.hid (fun j => (bytes_calls (w6.drewN j) av as0 cv cs0 snap.length snap.length snap snap rfl rfl HY.out.1 HY.out.1 (HV.out.1.fr0 (HF6.out.drewN j)) (HS5.out.sn.rd.fr0 (HF6.out.drewN j))).mono (fun e w' hw' => ⟨by rw [hw'.1]; simp, j, hw'.2.symm⟩))
        have HQ2 : Hid (∀ j, Calls Try.prog 25 #[.slice ar lst.length cr, .slice al lst.length cl] (w6.drewN j) fun e w' => e = .returned (.bool true) ∧ ∃ m, w' = w6.drewN m) := Lib.hid (fun j => (lists_quiet (c1 := cr) (c2 := cl) (HV.out.2.1.fr0 (HF6.out.drewN j)) (HS5.out.li.any.fr0 (HF6.out.drewN j)) (HV.out.2.2.1.fr0 (HF6.out.drewN j)) (HS5.out.ls.any.fr0 (HF6.out.drewN j)) rfl rfl HY.out.2 HY.out.2 hcn).mono (fun e w' hw' => ⟨by rw [hw'.1]; simp, by obtain ⟨m, hm⟩ := hw'.2; exact ⟨j + m, by rw [hm, World.drewN_drewN]⟩⟩))
        have HQ3 : Hid (∀ j, Calls Try.prog 15 #[.pointer (some ⟨q', 0, none⟩)] (w6.drewN j) fun e w' => e = .returned (.int .i64 lst.length) ∧ ∃ m, w' = w6.drewN m) := Lib.hid (fun j => (len_calls (HV.out.2.2.2.fr (HF6.out.drewN j) (by simp))).mono (fun e w' hw' => ⟨hw'.1, j, hw'.2.symm⟩))
        have HQ4 : Hid (∀ j, Calls Try.prog 16 #[.pointer (some ⟨q', 0, none⟩)] (w6.drewN j) fun e w' => e = .returned (.int .i64 lst.length) ∧ ∃ m, w' = w6.drewN m) := Lib.hid (fun j => (safe_calls (HV.out.2.2.2.fr (HF6.out.drewN j) (by simp))).mono (fun e w' hw' => ⟨hw'.1, j, hw'.2.symm⟩))
        go_quiet (first | exact HQ1.out _ | exact HQ2.out _ | exact HQ3.out _ | exact HQ4.out _)
        go_wp2_with fail
        go_roundw
        case rel =>
          have h5 := HS5.out
          have f := HF6.out.drewN nq
          exact ⟨k + 1, q', by omega, by go_num, ⟨h5.sd.fr0 f, h5.hk.fr f (by simp), h5.kp, h5.sn.fr0 f, h5.li.fr0 f, h5.ls.fr0 f⟩⟩
        case measure => simp [intOf]; omega
      · have i3 : ¬ (k : Int) < 3 := by omega
        go_wp2_with fail
        go_ret
        exact ⟨rfl, HR.out.sd.fr.below (Nat.le_refl _) (by simp)⟩
end Go.Fur
