/- A life beyond all that were written: contract. -/
import Derived.Test.YtmhejgelmmjihaaSto3
namespace Go.Fur
open Go Go.RowKit Go.Proofs
set_option linter.unusedVariables false
set_option linter.unusedSimpArgs false
/-- The number that four bytes write at the place i. -/
def four4 (b : List Int) (i : Nat) : Nat := match b.drop i with
  | x0 :: x1 :: x2 :: x3 :: _ => x0.toNat + 256 * x1.toNat + 65536 * x2.toNat + 16777216 * x3.toNat
  | _ => 0
theorem four4_calls {w : World} {g n c i : Nat} {b : List Int} (h : Rd w (some ⟨g, i, none⟩) (bv (b.drop i))) (hb : Byt b) (hl : i + 4 ≤ b.length) (hn : 4 ≤ n) (hc : n ≤ c) (hm : c ≤ maxLen) :
    Calls Try.prog 29 #[.slice (some ⟨g, i, none⟩) n c] w fun e w' => e = .returned (.int .u32 (four4 b i)) ∧ ∃ k, w' = w.drewN k := by
  have hlen : (b.drop i).length = b.length - i := List.length_drop
  have hby := hb.drop i
  unfold four4
  match hd : b.drop i with
  | x0 :: x1 :: x2 :: x3 :: l =>
    rw [hd] at h hby
    have h0 := hby x0 (by simp)
    have h1 := hby x1 (by simp)
    have h2 := hby x2 (by simp)
    have h3 := hby x3 (by simp)
    obtain ⟨y0, rfl⟩ := Int.eq_ofNat_of_zero_le h0.1
    obtain ⟨y1, rfl⟩ := Int.eq_ofNat_of_zero_le h1.1
    obtain ⟨y2, rfl⟩ := Int.eq_ofNat_of_zero_le h2.1
    obtain ⟨y3, rfl⟩ := Int.eq_ofNat_of_zero_le h3.1
    have hq := four_calls (w := w) (n := n) (c := c) h hn hc hm (by omega) (by omega) (by omega) (by omega)
    simpa using hq
  | [] => rw [hd] at hlen; simp at hlen; omega
  | [_] => rw [hd] at hlen; simp at hlen; omega
  | [_, _] => rw [hd] at hlen; simp at hlen; omega
  | [_, _, _] => rw [hd] at hlen; simp at hlen; omega
theorem four4_lt {b : List Int} (hb : Byt b) (i : Nat) : four4 b i < 4294967296 := by
  have hby := hb.drop i
  unfold four4
  split
  · rename_i x0 x1 x2 x3 l hd
    rw [hd] at hby
    have h0 := hby x0 (by simp)
    have h1 := hby x1 (by simp)
    have h2 := hby x2 (by simp)
    have h3 := hby x3 (by simp)
    omega
  · omega
def eldG (m : Nat) (b : List Int) : Nat := if 0 < four4 b 0 then max m (four4 b 4) else m
def eldL (d : D) (k : Nat) : Nat := ((d.now.drop 2).take k).foldl eldG 0
theorem eldL_succ (d : D) (k : Nat) (b : List Int) (h : d.now[2 + k]? = some b) : eldL d (k + 1) = eldG (eldL d k) b := by
  unfold eldL
  have h1 : (d.now.drop 2)[k]? = some b := by rw [List.getElem?_drop]; exact h
  rw [List.take_add_one, h1, List.foldl_append]
  rfl
theorem eldL_lt {d : D} (hy : ∀ b ∈ d.now, Byt b) : ∀ k, eldL d k < 4294967296
  | 0 => by simp [eldL]
  | k + 1 => by
    have ih := eldL_lt hy k
    cases hb : d.now[2 + k]? with
    | none =>
      have e : eldL d (k + 1) = eldL d k := by
        have hl := List.getElem?_eq_none_iff.1 hb
        unfold eldL
        rw [List.take_of_length_le (by simp; omega), List.take_of_length_le (by simp; omega)]
      omega
    | some b =>
      rw [eldL_succ d k b hb]
      have := four4_lt (hy b (List.mem_of_getElem? hb)) 4
      unfold eldG
      split
      · exact Nat.max_lt.2 ⟨ih, this⟩
      · exact ih
def EldR (w : World) (d : D) (m i : Value) (wr : World) : Prop := ∃ k : Nat, k ≤ d.now.length - 2 ∧ i = .int .i64 ((2 + k : Nat) : Int) ∧ m = .int .u32 (eldL d k) ∧ Fr [] w wr
set_option maxRecDepth 100000 in
set_option maxHeartbeats 2000000 in
theorem eldest_calls {w : World} {base p bb : Nat} {lv : Value} {d : D} (h : DiskAt w base p bb lv d) (hby : ∀ b ∈ d.now, Byt b) :
    Calls Try.prog 26 #[.pointer (some ⟨p, 0, none⟩)] w fun e w' => e = .returned (.int .u32 ((((eldL d (d.now.length - 2) : Nat) : Int) + 1) % 4294967296)) ∧ Fr [] w w' := by
  have HB := Lib.hid (fun (W : World) (f : Fr [] w W) => blocks_calls (h.fr0 f))
  have HRd := Lib.hid (fun (W : World) (f : Fr [] w W) (n : Nat) (b : List Int) (hn : d.now[n]? = some b) => read_calls (h.fr0 f) n b hn)
  have HY := Lib.hid hby
  have HW := Lib.hid h.wf
  have hm := h.wf.max
  clear h hby
  go_enter Try.func26, Try.ntmps26
  go_wp2_with fail
  go_loopw [3, 4] (fun m i wr => EldR w d m i wr) (fun _ i _ => d.now.length - (intOf i).toNat)
  case atStart => exact ⟨0, Nat.zero_le _, rfl, rfl, Fr.refl _ _⟩
  case round =>
    obtain ⟨k, hk, rfl, rfl, hF⟩ := hrel
    obtain ⟨q, hq⟩ : ∃ q, 2 + k = q := ⟨_, rfl⟩
    rw [hq]
    have HQ := Lib.hid hq
    have hq1 : 2 ≤ q := by omega
    clear hq
    have HF := Lib.hid hF
    clear hF
    go_wp2_with fail
    refine (HB.out wr HF.out).mono ?_
    rintro e w1 ⟨rfl, rfl⟩
    dsimp only
    by_cases hlt : q < d.now.length
    · have hb : (q : Int) < (d.now.length : Int) := by omega
      obtain ⟨b, hnb⟩ : ∃ b, d.now[q]? = some b := ⟨d.now[q], List.getElem?_eq_getElem hlt⟩
      have HNB := Lib.hid hnb
      clear hnb
      go_wp2_with fail
      refine (HRd.out wr HF.out q b HNB.out).mono ?_
      rintro e w2 ⟨g, cap, rfl, O2, F2⟩
      obtain ⟨hr2, hc2, hm2⟩ := O2.rdS (X := fun _ => False) (fun _ _ h => h)
      have hlen : b.length = 64 := HW.out.now b (List.mem_of_getElem? HNB.out)
      have hyb := HY.out b (List.mem_of_getElem? HNB.out)
      have HR2 := Lib.hid hr2.rd
      have HL := Lib.hid hlen
      have HYB := Lib.hid hyb
      have HF2 := Lib.hid F2
      have HM := Lib.hid hm2
      have hm3 : cap ≤ 9223372036854775807 := by unfold maxLen at hm2; exact hm2
      have hlt0 := four4_lt hyb 0
      have hlt4 := four4_lt hyb 4
      have HS : Hid (eldL d (k + 1) = eldG (eldL d k) b) := Lib.hid (eldL_succ d k b (by rw [HQ.out]; exact HNB.out))
      clear O2 F2 hlen hyb hr2 hm2
      dsimp only
      go_wp2_with fail
      refine (four4_calls (i := 0) (b := b) (by simpa using HR2.out) HYB.out (by rw [HL.out]; omega) (by omega) hc2 HM.out).mono ?_
      rintro e w3 ⟨rfl, nk, rfl⟩
      dsimp only
      have hel : eldL d k < 4294967296 := eldL_lt HY.out k
      have hF3 : Fr [] w w2 := HF.out.trans0 HF2.out
      have HF3 := Lib.hid hF3
      clear hF3
      by_cases hg : 0 < four4 b 0
      · have hg' : (0 : Int) < (four4 b 0 : Int) := by omega
        go_wp2_with fail
        refine (four4_calls (i := 4) (b := b) ?_ HYB.out (by rw [HL.out]; omega) (by omega) (by omega) (by have := HM.out; omega)).mono ?_
        · have h5 := HR2.out
          obtain ⟨b1, o1, he, hr⟩ := h5 (fun h0 => by have := congrArg List.length h0; rw [bv_length, HL.out] at this; simp at this)
          simp only [Option.some.injEq, Addr.mk.injEq] at he
          obtain ⟨rfl, rfl, _⟩ := he
          refine Rd.mk (fun j v hv => ?_)
          rw [bv_drop, List.getElem?_drop] at hv
          have := hr (4 + j) v hv
          rwa [Nat.zero_add] at this
        rintro e w4 ⟨rfl, nk2, rfl⟩
        dsimp only
        go_wp2_with fail
        go_roundw
        case rel =>
          refine ⟨k + 1, by have := HQ.out; omega, by rw [show 2 + (k + 1) = q + 1 from by have := HQ.out; omega]; go_num, ?_, HF3.out.drewN _⟩
          rw [HS.out]
          unfold eldG
          rw [if_pos hg]
          split
          · rw [Nat.max_eq_right (by omega)]
          · rw [Nat.max_eq_left (by omega)]
        case measure => simp [intOf]; omega
      · have hg' : ¬ (0 : Int) < (four4 b 0 : Int) := by omega
        go_wp2_with fail
        go_roundw
        case rel =>
          refine ⟨k + 1, by have := HQ.out; omega, by rw [show 2 + (k + 1) = q + 1 from by have := HQ.out; omega]; go_num, ?_, HF3.out.drewN _⟩
          rw [HS.out]
          unfold eldG
          rw [if_neg hg]
        case measure => simp [intOf]; omega
    · have hb : ¬ (q : Int) < (d.now.length : Int) := by omega
      go_wp2_with fail
      go_ret
      have e1 : k = d.now.length - 2 := by have := HQ.out; omega
      subst e1
      exact ⟨rfl, HF.out⟩
end Go.Fur
