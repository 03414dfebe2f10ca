/- StoreStale: the walk. -/
import Derived.Test.YtmhejgelmmjihaaHolds15
import Derived.Deep.CutBlock
import Derived.Deep.DeepCutAuto
namespace Go.Fur
open Go Go.RowKit Go.Proofs
set_option linter.unusedVariables false
set_option linter.unusedSimpArgs false
abbrev rBss : Rdr (SlV (SlV Int)) := sliceR rBytes 24
abbrev rInts : Rdr (SlV Int) := sliceR rInt 8
theorem sBss : Sound Try.prog 23 rBss := sliceR_sound (k := 1) Try.underlying23 (by kernel_rfl) Nat.one_pos (by kernel_rfl) sBytes
theorem sInts : Sound Try.prog 22 rInts := sliceR_sound (k := 1) Try.underlying22 (by kernel_rfl) Nat.one_pos (by kernel_rfl) sInt
theorem sl_at {α : Type} {r : Rdr α} {sz : Nat} {W : World} {l : SlV α} (h : (sliceR r sz).ok W l) (v : α → Value) (hv : ∀ x, r.enc x = [v x]) (k : Nat) (o : α) (ho : l.xs[k]? = some o) :
    ∃ b off, l.a = some ⟨b, off, none⟩ ∧ W.rangeAt b (off + k) [v o] ∧ b < W.heap.size ∧ r.ok W o := by
  obtain ⟨h1, h2, h3, h4, h5, h6, h7⟩ := h
  have hlt : k < l.xs.length := (List.getElem?_eq_some_iff.1 ho).1
  have hlen : ∀ x ∈ l.xs, (r.enc x).length = 1 := fun x _ => by rw [hv]; rfl
  have hne : flat r.enc l.xs ≠ [] := fun h0 => by
    have := flat_length r.enc 1 l.xs hlen
    rw [h0] at this
    simp at this
    omega
  obtain ⟨b, off, ha, hr⟩ := h4 hne
  refine ⟨b, off, ha, fun j u hu => ?_, ?_, h5 o (List.mem_of_getElem? ho)⟩
  · have hp := flat_piece r.enc 1 l.xs hlen k o ho
    rw [hv] at hp
    have hv' : ((flat r.enc l.xs).drop (k * 1))[j]? = some u := by
      have h8 : (((flat r.enc l.xs).drop (k * 1)).take 1)[j]? = some u := by rw [hp]; exact hu
      rw [List.getElem?_take] at h8
      split at h8
      · exact h8
      · cases h8
    rw [List.getElem?_drop, Nat.mul_one] at hv'
    have := hr (k + j) u hv'
    rwa [show off + k + j = off + (k + j) from by omega]
  · exact h7 _ ha (by omega)
theorem Dk.append {W w : World} {K N : Nat} (h : Dk W K N w) (hN : N ≤ 999) (a : Option Addr) (m c : Nat) (l : List Int) (hm : l.length = m) (hr : RdA w (fun k => W.heap.size ≤ k) a (bv l)) (hl : Byt l) (hmc : m ≤ maxLen) :
    Calls Try.prog 20 #[.pointer (some ⟨K, 0, none⟩), .slice a m c] w fun e w' => e = .returned (.bool true) ∧ Dk W K (N + 1) w' := by
  obtain ⟨p, bb, q, lv, tl, vs, al, cl, us, d, s, whole, snap, lst, h⟩ := h
  exact dapp_calls h (by omega) a m c l hm (h.args hr) hl hmc
theorem Dk.check {W w : World} {K N : Nat} (h : Dk W K N w) (hN : N ≤ 999) (a : Option Addr) (m c : Nat) (l : List Int) (hm : l.length = m) (hr : RdA w (fun k => W.heap.size ≤ k) a (bv l)) (hl : Byt l) (hmc : m ≤ maxLen) :
    Calls Try.prog 22 #[.pointer (some ⟨K, 0, none⟩), .slice a m c] w fun e w' => e = .returned (.bool true) ∧ Dk W K (N + 1) w' := by
  obtain ⟨p, bb, q, lv, tl, vs, al, cl, us, d, s, whole, snap, lst, h⟩ := h
  exact dchk_calls h (by omega) a m c l hm (h.args hr) hl hmc
def StR (W : World) (K m : Nat) (i : Value) (wr : World) : Prop := ∃ k : Nat, k ≤ m ∧ i = .int .i64 k ∧ Dk W K (4 * k) wr
set_option maxRecDepth 100000 in
set_option maxHeartbeats 8000000 in
theorem StoreStale_walk (W : World) (ls : SlV (SlV Int)) (hls : rBss.ok W ls) (ks : SlV Int) (hks : rInts.ok W ks) (x : SlV Int) (hx : rBytes.ok W x) :
    Calls Try.prog 5 #[ls.val, ks.val, x.val] W fun e w' => e = .returned (.bool true) ∧ Below W.heap.size W w' := by
  simp only [SlV.val]
  obtain ⟨pbt, pr, ple, pcap⟩ := bytes_ok hx
  have HL := Lib.hid hls
  have HK := Lib.hid hks
  have HX := Lib.hid (And.intro pbt pr.own)
  clear hls hks hx pbt pr
  by_cases hout : (30 : Int) < (ls.xs.length : Int) ∨ (3000 : Int) < (x.xs.length : Int)
  · go_enter Try.func5, Try.ntmps5
    go_wp2_with fail
    refine (awake_calls W).mono ?_
    rintro e w1 ⟨rfl, F1⟩
    have HF1 := Lib.hid F1
    clear F1
    dsimp only
    by_cases h1 : (30 : Int) < (ls.xs.length : Int)
    · go_wp2_with fail
      go_ret
      exact ⟨rfl, HF1.out.below (Nat.le_refl _) (by simp)⟩
    · have h2 : (3000 : Int) < (x.xs.length : Int) := by omega
      go_wp2_with fail
      go_ret
      exact ⟨rfl, HF1.out.below (Nat.le_refl _) (by simp)⟩
  · have h1 : ¬ (30 : Int) < (ls.xs.length : Int) := by omega
    have h2 : ¬ (3000 : Int) < (x.xs.length : Int) := by omega
    go_enter Try.func5, Try.ntmps5
    go_wp2_with fail
    refine (awake_calls W).mono ?_
    rintro e w1 ⟨rfl, F1⟩
    have HF1 := Lib.hid F1
    clear F1
    dsimp only
    go_wp2_with fail
    refine (begin_calls w1 1200 (by omega) (by omega)).mono ?_
    rintro e w2 ⟨p, bb, q, lv, tl, d, s, rfl, S2, D2, hn, hg, hl, hlo, hsf, F2⟩
    have hw1 := HF1.out.size
    have HS2 := Lib.hid (And.intro (S2.wbase hw1) (And.intro D2 (And.intro hn (And.intro hg (And.intro hl (And.intro hlo hsf))))))
    have HF2 := Lib.hid (HF1.out.trans0 F2)
    clear S2 D2 hn hg hl hlo hsf F2
    have hd8 : ∀ v ∈ dskC p q (16 * (1200 : Nat) - 1024) false (.slice none 0 0) (.slice none 0 0) 0 0, v.oneCell' = true := by simp [dskC, Value.oneCell']
    dsimp only
    go_wp2_with (first
      | (refine wpList_allocZ rfl 44 rfl _ desk_zero ?_; intro w3 B3 F3 S3)
      | (refine wpList_storeB rfl 44 _ _ rfl w2.heap.size 0 (dskC p q (16 * (1200 : Nat) - 1024) false (.slice none 0 0) (.slice none 0 0) 0 0) (by rfl) (by rfl) 44 _ B3 (by simp [dskC]) desk_size hd8 ?_; intro w4 B4 F4 S4; rw [splice_all _ _ (by rfl)] at B4; have hF24 : Fr [] w2 w4 := F3.trans F4 (fun x hx hlt => by simp at hx; omega); have HDK := Lib.hid (dk_new HF2.out HS2.out.1 HS2.out.2.1 HS2.out.2.2.1 HS2.out.2.2.2.1 HS2.out.2.2.2.2.1 HS2.out.2.2.2.2.2.1 HS2.out.2.2.2.2.2.2 hF24 B4 (Nat.le_refl _) (by omega) (by omega)); clear B3 F3 S3 B4 F4 S4 hF24 HS2))
    obtain ⟨K, hK⟩ : ∃ K, w2.heap.size = K := ⟨_, rfl⟩
    rw [hK] at HDK ⊢
    clear hK hd8
    go_loopw [30] (fun i wr => StR W K ls.xs.length i wr) (fun i _ => ls.xs.length - (intOf i).toNat)
    case atStart => exact ⟨0, Nat.zero_le _, rfl, HDK.out⟩
    case round =>
      obtain ⟨k, hk, rfl, hD⟩ := hrel
      have HD := Lib.hid hD
      clear hD
      by_cases hlt : k < ls.xs.length
      · obtain ⟨o, ho⟩ : ∃ o, ls.xs[k]? = some o := ⟨_, List.getElem?_eq_getElem hlt⟩
        obtain ⟨b, off, ha, hr, hbl, hp⟩ := sl_at HL.out SlV.val (fun _ => rfl) k o ho
        obtain ⟨obt, or1, ole, ocap⟩ := bytes_ok hp
        have i0 : (0 : Int) ≤ (k : Int) := by omega
        have i3 : (k : Int) < (ls.xs.length : Int) := by omega
        have c0 : wr.cell? ⟨b, off + k, none⟩ = some (.slice o.a o.xs.length o.cap) := by
          have := rangeAt_fr hr HD.out.fr (by simp) 0 _ rfl
          rwa [Nat.add_zero] at this
        rw [ha]
        have HO := Lib.hid (And.intro obt or1.own)
        clear hr hp obt or1 ha ho
        by_cases hbig : (2000 : Int) < (o.xs.length : Int)
        · go_wp2_with fail
          go_ret
          exact ⟨rfl, HD.out.fr.below (Nat.le_refl _) (by simp)⟩
        · go_upto_region 14 with fail
          by_cases hkl : k < ks.xs.length
          · obtain ⟨y, hy⟩ : ∃ y, ks.xs[k]? = some y := ⟨_, List.getElem?_eq_getElem hkl⟩
            obtain ⟨b2, off2, ha2, hr2, hbl2, hp2⟩ := sl_at HK.out (fun y => .int .i64 y) (fun _ => rfl) k y hy
            obtain ⟨y1, y2⟩ := int_ok hp2
            have i5 : (k : Int) < (ks.xs.length : Int) := by omega
            have c9 : wr.cell? ⟨b2, off2 + k, none⟩ = some (.int .i64 y) := by
              have := rangeAt_fr hr2 HD.out.fr (by simp) 0 _ rfl
              rwa [Nat.add_zero] at this
            rw [ha2]
            have HA2 := Lib.hid ha2
            clear hr2 ha2 hy hp2
            by_cases hy0 : y < 0
            · go_wp2_with fail
              refine (HD.out.append (by omega) o.a o.xs.length o.cap o.xs rfl (HO.out.2.fr0 HD.out.fr) HO.out.1 (by unfold maxLen; omega)).mono ?_
              rintro e w5 ⟨rfl, D5⟩
              have HD5 := Lib.hid D5
              clear D5
              dsimp only
              by_cases h3 : (k : Int) % 3 = 0
              · go_wp2_with fail
                refine (HD5.out.append (by omega) x.a x.xs.length x.cap x.xs rfl (HX.out.2.fr0 HD5.out.fr) HX.out.1 (by unfold maxLen; omega)).mono ?_
                rintro e w6 ⟨rfl, D6⟩
                have HD6 := Lib.hid D6
                clear D6
                dsimp only
                go_wp2_with fail
                refine (HD6.out.crash (by omega) 0 (by omega)).mono ?_
                rintro e w7 ⟨rfl, D7⟩
                have HD7 := Lib.hid D7
                clear D7
                dsimp only
                by_cases h4 : (k : Int) % 4 = 3
                · go_wp2_with fail
                  refine (HD7.out.check (by omega) o.a o.xs.length o.cap o.xs rfl (HO.out.2.fr0 HD7.out.fr) HO.out.1 (by unfold maxLen; omega)).mono ?_
                  rintro e w8 ⟨rfl, D8⟩
                  have HD8 := Lib.hid D8
                  clear D8
                  dsimp only
                  go_wp2_with fail
                  rw [← HA2.out]
                  go_roundw
                  case rel => exact ⟨k + 1, by omega, by go_num, HD8.out.more (by omega)⟩
                  case measure => simp [intOf]; omega
                · go_wp2_with fail
                  rw [← HA2.out]
                  go_roundw
                  case rel => exact ⟨k + 1, by omega, by go_num, HD7.out.more (by omega)⟩
                  case measure => simp [intOf]; omega
              · go_wp2_with fail
                refine (HD5.out.crash (by omega) 0 (by omega)).mono ?_
                rintro e w7 ⟨rfl, D7⟩
                have HD7 := Lib.hid D7
                clear D7
                dsimp only
                by_cases h4 : (k : Int) % 4 = 3
                · go_wp2_with fail
                  refine (HD7.out.check (by omega) o.a o.xs.length o.cap o.xs rfl (HO.out.2.fr0 HD7.out.fr) HO.out.1 (by unfold maxLen; omega)).mono ?_
                  rintro e w8 ⟨rfl, D8⟩
                  have HD8 := Lib.hid D8
                  clear D8
                  dsimp only
                  go_wp2_with fail
                  rw [← HA2.out]
                  go_roundw
                  case rel => exact ⟨k + 1, by omega, by go_num, HD8.out.more (by omega)⟩
                  case measure => simp [intOf]; omega
                · go_wp2_with fail
                  rw [← HA2.out]
                  go_roundw
                  case rel => exact ⟨k + 1, by omega, by go_num, HD7.out.more (by omega)⟩
                  case measure => simp [intOf]; omega
            · obtain ⟨kk, hkk⟩ : ∃ kk : Nat, y = kk := ⟨y.toNat, by omega⟩
              subst hkk
              by_cases hb : (1048576 : Int) < (kk : Int)
              · go_wp2_with fail
                refine (HD.out.append (by omega) o.a o.xs.length o.cap o.xs rfl (HO.out.2.fr0 HD.out.fr) HO.out.1 (by unfold maxLen; omega)).mono ?_
                rintro e w5 ⟨rfl, D5⟩
                have HD5 := Lib.hid D5
                clear D5
                dsimp only
                by_cases h3 : (k : Int) % 3 = 0
                · go_wp2_with fail
                  refine (HD5.out.append (by omega) x.a x.xs.length x.cap x.xs rfl (HX.out.2.fr0 HD5.out.fr) HX.out.1 (by unfold maxLen; omega)).mono ?_
                  rintro e w6 ⟨rfl, D6⟩
                  have HD6 := Lib.hid D6
                  clear D6
                  dsimp only
                  go_wp2_with fail
                  refine (HD6.out.crash (by omega) 1048576 (by omega)).mono ?_
                  rintro e w7 ⟨rfl, D7⟩
                  have HD7 := Lib.hid D7
                  clear D7
                  dsimp only
                  by_cases h4 : (k : Int) % 4 = 3
                  · go_wp2_with fail
                    refine (HD7.out.check (by omega) o.a o.xs.length o.cap o.xs rfl (HO.out.2.fr0 HD7.out.fr) HO.out.1 (by unfold maxLen; omega)).mono ?_
                    rintro e w8 ⟨rfl, D8⟩
                    have HD8 := Lib.hid D8
                    clear D8
                    dsimp only
                    go_wp2_with fail
                    rw [← HA2.out]
                    go_roundw
                    case rel => exact ⟨k + 1, by omega, by go_num, HD8.out.more (by omega)⟩
                    case measure => simp [intOf]; omega
                  · go_wp2_with fail
                    rw [← HA2.out]
                    go_roundw
                    case rel => exact ⟨k + 1, by omega, by go_num, HD7.out.more (by omega)⟩
                    case measure => simp [intOf]; omega
                · go_wp2_with fail
                  refine (HD5.out.crash (by omega) 1048576 (by omega)).mono ?_
                  rintro e w7 ⟨rfl, D7⟩
                  have HD7 := Lib.hid D7
                  clear D7
                  dsimp only
                  by_cases h4 : (k : Int) % 4 = 3
                  · go_wp2_with fail
                    refine (HD7.out.check (by omega) o.a o.xs.length o.cap o.xs rfl (HO.out.2.fr0 HD7.out.fr) HO.out.1 (by unfold maxLen; omega)).mono ?_
                    rintro e w8 ⟨rfl, D8⟩
                    have HD8 := Lib.hid D8
                    clear D8
                    dsimp only
                    go_wp2_with fail
                    rw [← HA2.out]
                    go_roundw
                    case rel => exact ⟨k + 1, by omega, by go_num, HD8.out.more (by omega)⟩
                    case measure => simp [intOf]; omega
                  · go_wp2_with fail
                    rw [← HA2.out]
                    go_roundw
                    case rel => exact ⟨k + 1, by omega, by go_num, HD7.out.more (by omega)⟩
                    case measure => simp [intOf]; omega
              · go_wp2_with fail
                refine (HD.out.append (by omega) o.a o.xs.length o.cap o.xs rfl (HO.out.2.fr0 HD.out.fr) HO.out.1 (by unfold maxLen; omega)).mono ?_
                rintro e w5 ⟨rfl, D5⟩
                have HD5 := Lib.hid D5
                clear D5
                dsimp only
                by_cases h3 : (k : Int) % 3 = 0
                · go_wp2_with fail
                  refine (HD5.out.append (by omega) x.a x.xs.length x.cap x.xs rfl (HX.out.2.fr0 HD5.out.fr) HX.out.1 (by unfold maxLen; omega)).mono ?_
                  rintro e w6 ⟨rfl, D6⟩
                  have HD6 := Lib.hid D6
                  clear D6
                  dsimp only
                  go_wp2_with fail
                  refine (HD6.out.crash (by omega) kk (by omega)).mono ?_
                  rintro e w7 ⟨rfl, D7⟩
                  have HD7 := Lib.hid D7
                  clear D7
                  dsimp only
                  by_cases h4 : (k : Int) % 4 = 3
                  · go_wp2_with fail
                    refine (HD7.out.check (by omega) o.a o.xs.length o.cap o.xs rfl (HO.out.2.fr0 HD7.out.fr) HO.out.1 (by unfold maxLen; omega)).mono ?_
                    rintro e w8 ⟨rfl, D8⟩
                    have HD8 := Lib.hid D8
                    clear D8
                    dsimp only
                    go_wp2_with fail
                    rw [← HA2.out]
                    go_roundw
                    case rel => exact ⟨k + 1, by omega, by go_num, HD8.out.more (by omega)⟩
                    case measure => simp [intOf]; omega
                  · go_wp2_with fail
                    rw [← HA2.out]
                    go_roundw
                    case rel => exact ⟨k + 1, by omega, by go_num, HD7.out.more (by omega)⟩
                    case measure => simp [intOf]; omega
                · go_wp2_with fail
                  refine (HD5.out.crash (by omega) kk (by omega)).mono ?_
                  rintro e w7 ⟨rfl, D7⟩
                  have HD7 := Lib.hid D7
                  clear D7
                  dsimp only
                  by_cases h4 : (k : Int) % 4 = 3
                  · go_wp2_with fail
                    refine (HD7.out.check (by omega) o.a o.xs.length o.cap o.xs rfl (HO.out.2.fr0 HD7.out.fr) HO.out.1 (by unfold maxLen; omega)).mono ?_
                    rintro e w8 ⟨rfl, D8⟩
                    have HD8 := Lib.hid D8
                    clear D8
                    dsimp only
                    go_wp2_with fail
                    rw [← HA2.out]
                    go_roundw
                    case rel => exact ⟨k + 1, by omega, by go_num, HD8.out.more (by omega)⟩
                    case measure => simp [intOf]; omega
                  · go_wp2_with fail
                    rw [← HA2.out]
                    go_roundw
                    case rel => exact ⟨k + 1, by omega, by go_num, HD7.out.more (by omega)⟩
                    case measure => simp [intOf]; omega
          · have i5 : ¬ (k : Int) < (ks.xs.length : Int) := by omega
            go_wp2_with fail
            refine (HD.out.append (by omega) o.a o.xs.length o.cap o.xs rfl (HO.out.2.fr0 HD.out.fr) HO.out.1 (by unfold maxLen; omega)).mono ?_
            rintro e w5 ⟨rfl, D5⟩
            have HD5 := Lib.hid D5
            clear D5
            dsimp only
            by_cases h3 : (k : Int) % 3 = 0
            · go_wp2_with fail
              refine (HD5.out.append (by omega) x.a x.xs.length x.cap x.xs rfl (HX.out.2.fr0 HD5.out.fr) HX.out.1 (by unfold maxLen; omega)).mono ?_
              rintro e w6 ⟨rfl, D6⟩
              have HD6 := Lib.hid D6
              clear D6
              dsimp only
              go_wp2_with fail
              refine (HD6.out.crash (by omega) 0 (by omega)).mono ?_
              rintro e w7 ⟨rfl, D7⟩
              have HD7 := Lib.hid D7
              clear D7
              dsimp only
              by_cases h4 : (k : Int) % 4 = 3
              · go_wp2_with fail
                refine (HD7.out.check (by omega) o.a o.xs.length o.cap o.xs rfl (HO.out.2.fr0 HD7.out.fr) HO.out.1 (by unfold maxLen; omega)).mono ?_
                rintro e w8 ⟨rfl, D8⟩
                have HD8 := Lib.hid D8
                clear D8
                dsimp only
                go_wp2_with fail
                skip
                go_roundw
                case rel => exact ⟨k + 1, by omega, by go_num, HD8.out.more (by omega)⟩
                case measure => simp [intOf]; omega
              · go_wp2_with fail
                skip
                go_roundw
                case rel => exact ⟨k + 1, by omega, by go_num, HD7.out.more (by omega)⟩
                case measure => simp [intOf]; omega
            · go_wp2_with fail
              refine (HD5.out.crash (by omega) 0 (by omega)).mono ?_
              rintro e w7 ⟨rfl, D7⟩
              have HD7 := Lib.hid D7
              clear D7
              dsimp only
              by_cases h4 : (k : Int) % 4 = 3
              · go_wp2_with fail
                refine (HD7.out.check (by omega) o.a o.xs.length o.cap o.xs rfl (HO.out.2.fr0 HD7.out.fr) HO.out.1 (by unfold maxLen; omega)).mono ?_
                rintro e w8 ⟨rfl, D8⟩
                have HD8 := Lib.hid D8
                clear D8
                dsimp only
                go_wp2_with fail
                skip
                go_roundw
                case rel => exact ⟨k + 1, by omega, by go_num, HD8.out.more (by omega)⟩
                case measure => simp [intOf]; omega
              · go_wp2_with fail
                skip
                go_roundw
                case rel => exact ⟨k + 1, by omega, by go_num, HD7.out.more (by omega)⟩
                case measure => simp [intOf]; omega
      · have i3 : ¬ (k : Int) < (ls.xs.length : Int) := by omega
        go_wp2_with fail
        refine (HD.out.crash (by omega) 0 (by omega)).mono ?_
        rintro e w8 ⟨rfl, D8⟩
        have HD8 := Lib.hid D8
        clear D8
        dsimp only
        go_wp2_with fail
        go_ret
        exact ⟨rfl, HD8.out.fr.below (Nat.le_refl _) (by simp)⟩
end Go.Fur
