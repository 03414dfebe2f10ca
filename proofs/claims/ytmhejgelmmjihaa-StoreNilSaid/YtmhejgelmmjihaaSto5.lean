/- The newest generation: contract. -/
import Derived.Test.YtmhejgelmmjihaaSto4
import Derived.Test.YtmhejgelmmjihaaDiskAll
import Derived.Test.YtmhejgelmmjihaaUtil01
import Derived.Test.YtmhejgelmmjihaaSl
namespace Go.Fur
open Go Go.RowKit Go.Proofs
set_option linter.unusedVariables false
set_option linter.unusedSimpArgs false
def magicL : List Int := [102, 117, 114, 108, 111, 110, 103, 49]
theorem magic_ne {b : List Int} (hb : Byt b) (h : ¬ b.take 8 = magicL) : ((strOfNums (b.take 8)).toList == [102, 117, 114, 108, 111, 110, 103, 49]) = false := by
  rw [beq_eq_false_iff_ne]
  intro h1
  apply h
  have hm : Byt magicL := by intro x hx; simp [magicL] at hx; omega
  refine strOfNums_inj (hb.take 8) hm (ByteArray.ext ?_)
  rw [← Array.toList_inj]
  have h2 : (strOfNums magicL).data.toList = [102, 117, 114, 108, 111, 110, 103, 49] := rfl
  rw [h2, ← h1, ByteArray.toList_eq]
/-- What block n says of the newest generation, and how long its snapshot is. -/
def rootG (r : Nat × Nat × Bool) (n : Nat) (b : List Int) : Nat × Nat × Bool :=
  if b.take 8 = magicL ∧ r.1 < four4 b 8 ∧ four4 b 8 % 2 = n then (four4 b 8, four4 b 12, true) else r
def rootN (now : List (List Int)) (r : Nat × Nat × Bool) (n : Nat) : Nat × Nat × Bool :=
  match now[n]? with
  | some b => rootG r n b
  | none => r
def rootK (now : List (List Int)) : Nat → Nat × Nat × Bool
  | 0 => (1, 0, false)
  | n + 1 => rootN now (rootK now n) n
def rootP (now : List (List Int)) : Nat × Nat × Bool := rootK now 2
def RootR (w : World) (d : D) (g s t i : Value) (wr : World) : Prop := ∃ k : Nat, k ≤ 2 ∧ i = .int .i64 (k : Int) ∧ g = .int .u32 (rootK d.now k).1 ∧ s = .int .i64 (rootK d.now k).2.1 ∧ t = .bool (rootK d.now k).2.2 ∧ Fr [] w wr
set_option maxRecDepth 100000 in
set_option maxHeartbeats 2000000 in
theorem root_calls {w : World} {base p bb : Nat} {lv : Value} {d : D} (h : DiskAt w base p bb lv d) (hby : ∀ b ∈ d.now, Byt b) :
    Calls Try.prog 27 #[.pointer (some ⟨p, 0, none⟩)] w fun e w' => e = .returned (.tuple #[.int .u32 (rootP d.now).1, .int .i64 (rootP d.now).2.1, .bool (rootP d.now).2.2]) ∧ Fr [] w w' := by
  have HRd := Lib.hid (fun (W : World) (f : Fr [] w W) (n : Nat) (b : List Int) (hn : d.now[n]? = some b) => read_calls (h.fr0 f) n b hn)
  have HRn := Lib.hid (fun (W : World) (f : Fr [] w W) (n : Int) (hn : n < 0 ∨ d.now.length ≤ n) => read_none (h.fr0 f) n hn)
  have HY := Lib.hid hby
  have HW := Lib.hid h.wf
  clear h hby
  go_enter Try.func27, Try.ntmps27
  go_wp2_with fail
  go_loopw [2, 3, 4, 9] (fun g s t i wr => RootR w d g s t i wr) (fun _ _ _ i _ => 2 - (intOf i).toNat)
  case atStart => exact ⟨0, Nat.zero_le _, rfl, rfl, rfl, rfl, Fr.refl _ _⟩
  case round =>
    obtain ⟨k, hk, rfl, rfl, rfl, rfl, hF⟩ := hrel
    have hK1 : rootK d.now (k + 1) = rootN d.now (rootK d.now k) k := rfl
    have HF := Lib.hid hF
    have hk1 : k = 2 ∨ k < 2 := by omega
    rcases hk1 with rfl | hk1
    · go_wp2_with fail
      go_ret3
      exact ⟨rfl, HF.out⟩
    · obtain ⟨r1, r2, r3, hr⟩ : ∃ r1 r2 r3, rootK d.now k = (r1, r2, r3) := ⟨_, _, _, rfl⟩
      rw [hr] at hK1 ⊢
      dsimp only
      have HK1 := Lib.hid hK1
      clear hK1 hr
      rcases Nat.lt_or_ge k d.now.length with hlt | hge
      · obtain ⟨b, hnb⟩ : ∃ b, d.now[k]? = some b := ⟨d.now[k], List.getElem?_eq_getElem hlt⟩
        have HNB := Lib.hid hnb
        clear hnb hF
        go_wp2_with fail
        refine (HRd.out wr HF.out k b HNB.out).mono ?_
        rintro e w2 ⟨g, cap, rfl, O2, F2⟩
        obtain ⟨hr2, hc2, hm2⟩ := O2.rdS (X := fun _ => False) (fun _ _ h => h)
        have hlen : b.length = 64 := HW.out.now b (List.mem_of_getElem? HNB.out)
        have hyb := HY.out b (List.mem_of_getElem? HNB.out)
        have HR2 := Lib.hid hr2.rd
        have HL := Lib.hid hlen
        have HYB := Lib.hid hyb
        have HF2 := Lib.hid (HF.out.trans0 F2)
        have HM := Lib.hid hm2
        have hm3 : cap ≤ 9223372036854775807 := by unfold maxLen at hm2; exact hm2
        have hlt0 := four4_lt hyb 8
        have hlt4 := four4_lt hyb 12
        clear O2 F2 hlen hyb hr2 hm2
        dsimp only
        have hcv : (convert 24 9 (.slice (some ⟨g, 0, none⟩) 8 cap)).run Try.prog w2 = .ok (.string (strOfNums (b.take 8))) w2 := string_rd Try.underlying24 Try.underlying5 Try.underlying9 (by rw [bv_take]; exact HR2.out.takeN 8) 8 (by rw [List.length_take, HL.out]; rfl)
        have hsl : ∀ i, Rd w2 (some ⟨g, i, none⟩) (bv (b.drop i)) := fun i => by rw [bv_drop]; simpa using HR2.out.dropN i
        have HSL := Lib.hid hsl
        have HRN : Hid (rootN d.now (r1, r2, r3) k = rootG (r1, r2, r3) k b) := Lib.hid (by unfold rootN; rw [HNB.out])
        clear hsl
        by_cases hmg : b.take 8 = magicL
        · have hb1 : ((strOfNums (b.take 8)).toList == [102, 117, 114, 108, 111, 110, 103, 49]) = true := by rw [hmg, ByteArray.toList_eq]; rfl
          have HMG := Lib.hid hmg
          clear hmg
          go_wp2_with fail
          refine (four4_calls (i := 8) (b := b) (HSL.out 8) HYB.out (by rw [HL.out]; omega) (by omega) (by omega) (by have := HM.out; omega)).mono ?_
          rintro e w3 ⟨rfl, nk, rfl⟩
          dsimp only
          go_wp2_with fail
          · refine (four4_calls (i := 12) (b := b) (hn := by omega) ((HSL.out 12).fr0 ((Fr.refl _ _).drewN _)) HYB.out (by rw [HL.out]; omega) (by omega) (by have := HM.out; omega)).mono ?_
            rintro e w4 ⟨rfl, nk2, rfl⟩
            dsimp only
            have h1 : r1 < four4 b 8 := by assumption
            have h2 : ((four4 b 8 : Int) % 2 == (k : Int)) = true := by assumption
            have h3 : four4 b 8 % 2 = k := by have := beq_iff_eq.1 h2; omega
            go_wp2_with fail
            go_roundw
            case rel =>
              refine ⟨k + 1, by omega, by go_num, ?_, ?_, ?_, HF2.out.drewN _⟩ <;> (rw [HK1.out, HRN.out]; unfold rootG; rw [if_pos ⟨HMG.out, h1, h3⟩])
            case measure => simp [intOf]; omega
          · have h2 : ((four4 b 8 : Int) % 2 == (k : Int)) = false := by assumption
            have h3 : ¬ four4 b 8 % 2 = k := fun h3 => by have := beq_eq_false_iff_ne.1 h2; omega
            go_roundw
            case rel =>
              refine ⟨k + 1, by omega, by go_num, ?_, ?_, ?_, HF2.out.drewN _⟩ <;> (rw [HK1.out, HRN.out]; unfold rootG; rw [if_neg (fun hh => h3 hh.2.2)])
            case measure => simp [intOf]; omega
          · have h1 : ¬ r1 < four4 b 8 := by assumption
            go_roundw
            case rel =>
              refine ⟨k + 1, by omega, by go_num, ?_, ?_, ?_, HF2.out.drewN _⟩ <;> (rw [HK1.out, HRN.out]; unfold rootG; rw [if_neg (fun hh => h1 hh.2.1)])
            case measure => simp [intOf]; omega
        · have hb1 : ((strOfNums (b.take 8)).toList == [102, 117, 114, 108, 111, 110, 103, 49]) = false := magic_ne HYB.out hmg
          have HMG := Lib.hid hmg
          clear hmg
          go_wp2_with fail
          go_roundw
          case rel =>
            refine ⟨k + 1, by omega, by go_num, ?_, ?_, ?_, HF2.out⟩ <;> (rw [HK1.out, HRN.out]; unfold rootG; rw [if_neg (fun hh => HMG.out hh.1)])
          case measure => simp [intOf]; omega
      · have hge' : (d.now.length : Int) ≤ (k : Int) := by omega
        have HRN : Hid (rootN d.now (r1, r2, r3) k = (r1, r2, r3)) := Lib.hid (by unfold rootN; rw [List.getElem?_eq_none hge])
        clear hF
        go_wp2_with fail
        refine (HRn.out wr HF.out k (.inr hge')).mono ?_
        rintro e w2 ⟨rfl, rfl⟩
        dsimp only
        go_wp2_with fail
        go_roundw
        case rel => refine ⟨k + 1, by omega, by go_num, ?_, ?_, ?_, HF.out⟩ <;> rw [HK1.out, HRN.out]
        case measure => simp [intOf]; omega
end Go.Fur
