/- StoreHolds: the walk. -/
import Derived.Test.YtmhejgelmmjihaaSto19
import Derived.Test.YtmhejgelmmjihaaOps15
namespace Go.Fur
open Go Go.RowKit Go.Proofs
set_option linter.unusedVariables false
set_option linter.unusedSimpArgs false
theorem Rd.own {w : World} {a : Option Addr} {cs : List Value} (h : Rd w a cs) : RdA w (fun k => w.heap.size ≤ k) a cs := fun hn => by
  obtain ⟨b, o, ha, hr⟩ := h hn
  obtain ⟨b2, o2, ha2, hlt⟩ := h.lt hn
  rw [ha] at ha2
  cases ha2
  exact ⟨b, o, ha, by omega, hlt, hr⟩
theorem dk_new {W w w' : World} {K n p bb q : Nat} {lv tl : Value} {d : D} {s : St} (hW : Fr [] W w) (hS : StoAt w W.heap.size p bb q lv tl d s) (hD : Desk d s false [] []) (hn : d.now.length = n) (hg : s.gen ≤ 1) (hl : s.life ≤ 1) (hlo : d.loose = []) (hsf : s.safe = 0) (f : Fr [] w w') (hB : Blk w' K 44 (dskC p q (16 * n - 1024) false (.slice none 0 0) (.slice none 0 0) 0 0)) (hK : w.heap.size ≤ K) (h1 : 80 ≤ n) (h2 : n ≤ 5000) : Dk W K 0 w' := by
  have := hW.size
  refine ⟨p, bb, q, lv, tl, .slice none 0 0, none, 0, [], d, s, false, [], [], ⟨hW.trans0 f, hS.fr0 f, ?_, by omega, ⟨none, 0, rfl, RdA.nil _ _ _, Nat.le_refl _, Nat.zero_le _⟩, Byt.nil, RdA.nil _ _ _, ⟨Nat.le_refl _, Nat.zero_le _⟩, AllB.nil _ _, by simp, hD, ⟨by omega, by omega, by rw [hlo]; simp, by simp⟩, by omega, by simp⟩⟩
  rw [hn, hsf]
  simpa [tookL] using hB
theorem StoAt.wbase {w : World} {base base' p bb q : Nat} {lv tl : Value} {d : D} {s : St} (h : StoAt w base p bb q lv tl d s) (hb : base' ≤ base) : StoAt w base' p bb q lv tl d s :=
  ⟨h.da.wbase hb, h.yd, h.hq, h.ht.base hb, h.yt, by have := h.bq; omega, h.g32, h.l32⟩
theorem Dk.crash {W w : World} {K N : Nat} (h : Dk W K N w) (hN : N ≤ 999) (keep : Nat) (hk : keep ≤ 9223372036854775807) :
    Calls Try.prog 21 #[.pointer (some ⟨K, 0, none⟩), .int .i64 keep] w fun e w' => e = .returned (.bool true) ∧ Dk W K (N + 1) w' := by
  obtain ⟨p, bb, q, lv, tl, vs, al, cl, us, d, s, whole, snap, lst, h⟩ := h
  exact dcr_calls h (by omega) keep hk
theorem Dk.fr {W w : World} {K N : Nat} (h : Dk W K N w) : Fr [] W w := by
  obtain ⟨p, bb, q, lv, tl, vs, al, cl, us, d, s, whole, snap, lst, h⟩ := h
  exact h.fr
def HoR (W : World) (K m : Nat) (i : Value) (wr : World) : Prop := ∃ k : Nat, k ≤ m ∧ k ≤ 150 ∧ i = .int .i64 k ∧ Dk W K k wr
set_option maxRecDepth 100000 in
set_option maxHeartbeats 4000000 in
theorem StoreHolds_walk (W : World) (n0 : Int) (hn0 : rInt.ok W n0) (ops : SlV Op15) (hops : rOps.ok W ops) :
    Calls Try.prog 6 #[.int .i64 n0, ops.val] W fun e w' => e = .returned (.bool true) ∧ Below W.heap.size W w' := by
  simp only [SlV.val]
  obtain ⟨i1, i2⟩ := int_ok hn0
  have HO := Lib.hid hops
  clear hn0 hops
  go_enter Try.func6, Try.ntmps6
  go_wp2_with fail
  refine (awake_calls W).mono ?_
  rintro e w1 ⟨rfl, F1⟩
  have HF1 := Lib.hid F1
  clear F1
  dsimp only
  go_wp2_with fail
  refine (blocksN_calls w1 n0 i1 i2).mono ?_
  rintro e w1' ⟨rfl, rfl⟩
  dsimp only
  obtain ⟨b1, b2⟩ := blocksN_bnd n0
  generalize blocksN n0 = n at *
  go_wp2_with fail
  refine (begin_calls w1 n b1 (by omega)).mono ?_
  rintro e w2 ⟨p, bb, q, lv, tl, d, s, rfl, S2, D2, hn, hg, hl, hlo, hsf, F2⟩
  have hw1 := HF1.out.size
  have HS2 := Lib.hid (And.intro (S2.wbase hw1) (And.intro D2 (And.intro hn (And.intro hg (And.intro hl (And.intro hlo hsf))))))
  have HF2 := Lib.hid (HF1.out.trans0 F2)
  clear S2 D2 hn hg hl hlo hsf F2
  have hd8 : ∀ v ∈ dskC p q (16 * n - 1024) false (.slice none 0 0) (.slice none 0 0) 0 0, v.oneCell' = true := by simp [dskC, Value.oneCell']
  dsimp only
  go_wp2_with (first
    | (refine wpList_allocZ rfl 44 rfl _ desk_zero ?_; intro w3 B3 F3 S3)
    | (refine wpList_storeB rfl 44 _ _ rfl w2.heap.size 0 (dskC p q (16 * n - 1024) false (.slice none 0 0) (.slice none 0 0) 0 0) (by rfl) (by rfl) 44 _ B3 (by simp [dskC]) desk_size hd8 ?_; intro w4 B4 F4 S4; rw [splice_all _ _ (by rfl)] at B4; have hF24 : Fr [] w2 w4 := F3.trans F4 (fun x hx hlt => by simp at hx; omega); have HDK := Lib.hid (dk_new HF2.out HS2.out.1 HS2.out.2.1 HS2.out.2.2.1 HS2.out.2.2.2.1 HS2.out.2.2.2.2.1 HS2.out.2.2.2.2.2.1 HS2.out.2.2.2.2.2.2 hF24 B4 (Nat.le_refl _) b1 (by omega)); clear B3 F3 S3 B4 F4 S4 hF24 HS2))
  obtain ⟨K, hK⟩ : ∃ K, w2.heap.size = K := ⟨_, rfl⟩
  rw [hK] at HDK ⊢
  clear hK hd8
  go_loopw [21] (fun i wr => HoR W K ops.xs.length i wr) (fun i _ => ops.xs.length - (intOf i).toNat)
  case atStart => exact ⟨0, Nat.zero_le _, Nat.zero_le _, rfl, HDK.out⟩
  case round =>
    obtain ⟨k, hk, hk2, rfl, hD⟩ := hrel
    have HD := Lib.hid hD
    clear hD
    by_cases hlt : k < ops.xs.length
    · obtain ⟨o, ho⟩ : ∃ o, ops.xs[k]? = some o := ⟨_, List.getElem?_eq_getElem hlt⟩
      obtain ⟨b, off, ha, hr, hbl, hp, hi1, hi2⟩ := ops_at HO.out k o ho
      obtain ⟨pbt, pr, ple, pcap⟩ := bytes_ok hp
      obtain ⟨o1, o2, o3, o4⟩ := o
      simp only at hr pbt pr ple pcap hp hi1 hi2
      obtain ⟨_, hi4⟩ := int_ok hi2
      have hr2 := rangeAt_fr hr HD.out.fr (by simp)
      have i0 : (0 : Int) ≤ (k : Int) := by omega
      have i3 : (k : Int) < (ops.xs.length : Int) := by omega
      rw [ha]
      have HR := Lib.hid hr2
      have HP := Lib.hid pr.own
      have HY := Lib.hid pbt
      clear hr hr2 pr ha ho pbt hp hi1 hi2
      by_cases h150 : (150 : Int) ≤ (k : Int)
      · go_wp2_with (first
          | (refine wpList_loadB rfl 52 _ rfl wr.heap.size (by rfl) 52 [.int .i64 o1, .int .i64 o2, o3.val] _ HB4.out Try.underlying52 rfl (by exact op_size) ?_)
          | refine wpList_load_mid rfl 52 _ rfl b (off + k * 3) rfl [.int .i64 o1, .int .i64 o2, o3.val] _ HR.out Try.underlying52 rfl (by exact op_size) ?_
          | (refine wpList_allocZ rfl 52 rfl _ op_zero ?_; intro w3 B3 F3 S3)
          | (refine wpList_storeB rfl 52 _ _ rfl wr.heap.size 0 [.int .i64 o1, .int .i64 o2, o3.val] (by rfl) (by rfl) 52 _ B3 (by simp) (by exact op_size) (by simp [SlV.val, Value.oneCell']) ?_; intro w4 B4 F4 S4; rw [splice_all _ _ (by rfl)] at B4; have c2 : w4.cell? ⟨wr.heap.size, 2, none⟩ = some (.slice o3.a o3.xs.length o3.cap) := B4.cellAt rfl; have hG4 : Fr [] wr w4 := F3.trans F4 (fun x hx hlt => by simp at hx; omega); have HB4 := Lib.hid B4; have HP4 := Lib.hid (HP.out.fr0 (HD.out.fr.trans0 hG4)); have HD4 := Lib.hid (HD.out.fr0 hG4); clear B3 F3 S3 B4 F4 S4 hG4 HD))
        refine (HD4.out.crash (by omega) 0 (by omega)).mono ?_
        rintro e w8 ⟨rfl, D8⟩
        have HD8 := Lib.hid D8
        clear D8
        dsimp only
        go_wp2_with fail
        refine (HD8.out.crash (by omega) 9 (by omega)).mono ?_
        rintro e w9 ⟨rfl, D9⟩
        have HD9 := Lib.hid D9
        clear D9
        dsimp only
        go_wp2_with fail
        go_ret
        exact ⟨rfl, HD9.out.fr.below (Nat.le_refl _) (by simp)⟩
      · by_cases hbig : (1048576 : Int) < (o3.xs.length : Int)
        · go_wp2_with (first
            | (refine wpList_loadB rfl 52 _ rfl wr.heap.size (by rfl) 52 [.int .i64 o1, .int .i64 o2, o3.val] _ HB4.out Try.underlying52 rfl (by exact op_size) ?_)
            | refine wpList_load_mid rfl 52 _ rfl b (off + k * 3) rfl [.int .i64 o1, .int .i64 o2, o3.val] _ HR.out Try.underlying52 rfl (by exact op_size) ?_
            | (refine wpList_allocZ rfl 52 rfl _ op_zero ?_; intro w3 B3 F3 S3)
            | (refine wpList_storeB rfl 52 _ _ rfl wr.heap.size 0 [.int .i64 o1, .int .i64 o2, o3.val] (by rfl) (by rfl) 52 _ B3 (by simp) (by exact op_size) (by simp [SlV.val, Value.oneCell']) ?_; intro w4 B4 F4 S4; rw [splice_all _ _ (by rfl)] at B4; have c2 : w4.cell? ⟨wr.heap.size, 2, none⟩ = some (.slice o3.a o3.xs.length o3.cap) := B4.cellAt rfl; have hG4 : Fr [] wr w4 := F3.trans F4 (fun x hx hlt => by simp at hx; omega); have HB4 := Lib.hid B4; have HP4 := Lib.hid (HP.out.fr0 (HD.out.fr.trans0 hG4)); have HD4 := Lib.hid (HD.out.fr0 hG4); clear B3 F3 S3 B4 F4 S4 hG4 HD))
          refine (HD4.out.crash (by omega) 0 (by omega)).mono ?_
          rintro e w8 ⟨rfl, D8⟩
          have HD8 := Lib.hid D8
          clear D8
          dsimp only
          go_wp2_with fail
          refine (HD8.out.crash (by omega) 9 (by omega)).mono ?_
          rintro e w9 ⟨rfl, D9⟩
          have HD9 := Lib.hid D9
          clear D9
          dsimp only
          go_wp2_with fail
          go_ret
          exact ⟨rfl, HD9.out.fr.below (Nat.le_refl _) (by simp)⟩
        · go_wp2_with (first
            | (refine wpList_loadB rfl 52 _ rfl wr.heap.size (by rfl) 52 [.int .i64 o1, .int .i64 o2, o3.val] _ HB4.out Try.underlying52 rfl (by exact op_size) ?_)
            | refine wpList_load_mid rfl 52 _ rfl b (off + k * 3) rfl [.int .i64 o1, .int .i64 o2, o3.val] _ HR.out Try.underlying52 rfl (by exact op_size) ?_
            | (refine wpList_allocZ rfl 52 rfl _ op_zero ?_; intro w3 B3 F3 S3)
            | (refine wpList_storeB rfl 52 _ _ rfl wr.heap.size 0 [.int .i64 o1, .int .i64 o2, o3.val] (by rfl) (by rfl) 52 _ B3 (by simp) (by exact op_size) (by simp [SlV.val, Value.oneCell']) ?_; intro w4 B4 F4 S4; rw [splice_all _ _ (by rfl)] at B4; have c2 : w4.cell? ⟨wr.heap.size, 2, none⟩ = some (.slice o3.a o3.xs.length o3.cap) := B4.cellAt rfl; have hG4 : Fr [] wr w4 := F3.trans F4 (fun x hx hlt => by simp at hx; omega); have HB4 := Lib.hid B4; have HP4 := Lib.hid (HP.out.fr0 (HD.out.fr.trans0 hG4)); have HD4 := Lib.hid (HD.out.fr0 hG4); clear B3 F3 S3 B4 F4 S4 hG4 HD))
          refine (ddo_calls HD4.out (by omega) o1 o2 hi4 o3.a o3.xs.length o3.cap o3.xs rfl HP4.out HY.out (by unfold maxLen; omega)).mono ?_
          rintro e w5 ⟨rfl, D5⟩
          have HD5 := Lib.hid D5
          clear D5
          dsimp only
          go_wp2_with fail
          go_roundw
          case rel => exact ⟨k + 1, by omega, by omega, by go_num, HD5.out⟩
          case measure => simp [intOf]; omega
    · have i3 : ¬ (k : Int) < (ops.xs.length : Int) := by omega
      go_wp2_with fail
      refine (HD.out.crash (by omega) 0 (by omega)).mono ?_
      rintro e w8 ⟨rfl, D8⟩
      have HD8 := Lib.hid D8
      clear D8
      dsimp only
      go_wp2_with fail
      refine (HD8.out.crash (by omega) 9 (by omega)).mono ?_
      rintro e w9 ⟨rfl, D9⟩
      have HD9 := Lib.hid D9
      clear D9
      dsimp only
      go_wp2_with fail
      go_ret
      exact ⟨rfl, HD9.out.fr.below (Nat.le_refl _) (by simp)⟩
end Go.Fur
