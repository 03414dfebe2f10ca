/- The walk of DiskPrefix. -/
import Derived.Test.YtkmodecmfjepkaaTwo14
namespace Go.Fur
open Go Go.RowKit Go.Proofs
set_option linter.unusedVariables false
set_option linter.unusedSimpArgs false
/-- Both disks alike, behind k writes. -/
def Alike (W : World) (pa ba pb bb : Nat) (len : Nat) (i : Value) (wr : World) : Prop := ∃ k : Nat, k ≤ len ∧ i = .int .i64 k ∧ ∃ d, Two W pa ba pb bb d d wr ∧ d.now.length = 40 ∧ d.loose.length ≤ k
def Loosely (W : World) (pa ba pb bb : Nat) (keep : Int) (len : Nat) (c i : Value) (wr : World) : Prop := ∃ k count : Nat, k ≤ len ∧ i = .int .i64 k ∧ c = .int .i64 count ∧ count ≤ k ∧ ∃ a b, Two W pa ba pb bb a b wr ∧ Mirror keep count a b
def Same14 (W : World) (pa ba pb bb : Nat) (i : Value) (wr : World) : Prop := ∃ k : Nat, k ≤ 40 ∧ i = .int .i64 k ∧ ∃ a b, Two W pa ba pb bb a b wr ∧ a.now = b.now ∧ a.now.length = 40
set_option maxRecDepth 100000 in
set_option maxHeartbeats 4000000 in
theorem DiskPrefix_walk (W : World) (safe : SlV Op14) (hsafe : rOps.ok W safe) (loose : SlV Op14) (hloose : rOps.ok W loose) (keep : Int) (_ : rInt.ok W keep) :
    Calls Try.prog 4 #[safe.val, loose.val, .int .i64 keep] W fun e w' => e = .returned (.bool true) ∧ Below W.heap.size W w' := by
  by_cases hout : 100 < safe.xs.length ∨ 100 < loose.xs.length ∨ keep < 0
  · have hb : (decide ((100 : Int) < (safe.xs.length : Int)) || decide ((100 : Int) < (loose.xs.length : Int)) || decide (keep < 0)) = true := by simp; omega
    simp only [SlV.val]
    go_enter Try.func4, Try.ntmps4
    go_wp2_with fail
    refine (awake_calls W).mono ?_
    rintro e w1 ⟨rfl, F1⟩
    by_cases h1 : (100 : Int) < (safe.xs.length : Int)
    · go_wp2_with fail
      go_ret
      exact ⟨rfl, F1.below (Nat.le_refl _) (by simp)⟩
    · by_cases h2 : (100 : Int) < (loose.xs.length : Int)
      · go_wp2_with fail
        go_ret
        exact ⟨rfl, F1.below (Nat.le_refl _) (by simp)⟩
      · have h3 : keep < 0 := by omega
        go_wp2_with fail
        go_ret
        exact ⟨rfl, F1.below (Nat.le_refl _) (by simp)⟩
  · have h1 : ¬ (100 : Int) < (safe.xs.length : Int) := by omega
    have h2 : ¬ (100 : Int) < (loose.xs.length : Int) := by omega
    have h3 : ¬ keep < 0 := by omega
    simp only [SlV.val]
    go_enter Try.func4, Try.ntmps4
    go_wp2_with fail
    refine (awake_calls W).mono ?_
    rintro e w1 ⟨rfl, F1⟩
    go_wp2_with fail
    refine (new_all w1 40 (by omega) (by omega)).mono ?_
    rintro e w2 ⟨pa, ba, rfl, D2, F2⟩
    go_wp2_with fail
    refine (new_all w2 40 (by omega) (by omega)).mono ?_
    rintro e w3 ⟨pb, bb, rfl, D3, F3⟩
    have R0 : Alike W pa ba pb bb safe.xs.length (.int .i64 (0 : Nat)) w3 := by
      have h12 := F1.size
      have h23 := F2.size
      refine ⟨0, Nat.zero_le _, rfl, D.new 40, ⟨_, _, (D2.fr0 F3).wbase h12, D3.wbase (by omega), fun k hk hm => ?_, (F1.trans0 F2).trans0 F3, D.new_byt 40, D.new_byt 40⟩, rfl, Nat.le_refl _⟩
      have := D2.lt k hk
      have := D3.ge k hm
      omega
    have H0 := Lib.hid R0
    clear R0 D2 D3 F1 F2 F3
    go_wp2_with fail
    go_loopw [51] (fun i wr => Alike W pa ba pb bb safe.xs.length i wr) (fun i _ => safe.xs.length - (intOf i).toNat)
    case atStart => exact H0.out
    case round =>
      obtain ⟨k, hk, rfl, d, ⟨la, lb, hT⟩, hN, hL⟩ := hrel
      by_cases hlt : k < safe.xs.length
      · obtain ⟨o, ho⟩ : ∃ o, safe.xs[k]? = some o := ⟨_, List.getElem?_eq_getElem hlt⟩
        obtain ⟨b, off, ha, hr, hbl, hp⟩ := ops_at hsafe k o ho
        obtain ⟨pbt, pr, ple, pcap⟩ := bytes_ok hp
        obtain ⟨o1, o2, o3, o4⟩ := o
        simp only at hr pbt pr ple pcap hp
        have hr2 := rangeAt_fr hr hT.fr (by simp)
        have i0 : (0 : Int) ≤ (k : Int) := by omega
        have i1 : (k : Int) < (safe.xs.length : Int) := by omega
        rw [ha]
        have HR := Lib.hid hr2
        have HT := Lib.hid hT
        have HP := Lib.hid pr
        have HY := Lib.hid pbt
        clear hr hr2 hT pr ha ho pbt hp
        have HN := Lib.hid hN
        have HL := Lib.hid hL
        clear hN hL
        go_wp2_with (first
          | refine wpList_load_mid rfl 36 _ rfl b (off + k * 3) rfl [.int .i64 o1, .int .i64 o2, o3.val] _ HR.out Try.underlying36 rfl (by exact op_size) ?_
          | (refine wpList_allocZ rfl 36 rfl _ op_zero ?_; intro w3 B3 F3 S3)
          | (refine wpList_storeB rfl 36 _ _ rfl wr.heap.size 0 [.int .i64 o1, .int .i64 o2, o3.val] (by rfl) (by rfl) 36 _ B3 (by simp) (by exact op_size) (by simp [SlV.val, Value.oneCell']) ?_; intro w4 B4 F4 S4; have c1 : w4.cell? ⟨wr.heap.size, 1, none⟩ = some (.int .i64 o2) := B4.cellAt rfl; have c2 : w4.cell? ⟨wr.heap.size, 2, none⟩ = some (.slice o3.a o3.xs.length o3.cap) := B4.cellAt rfl))
        have G4 : Fr [] wr w4 := F3.trans F4 (fun x hx hlt => by simp at hx; omega)
        have T4 := HT.out.calm G4
        have R4 : Rd w4 o3.a (bv o3.xs) := (HP.out.fr0 HT.out.fr).fr0 G4
        have hsz := HT.out.fr.size
        have hsz4 := G4.size
        refine (write_all T4.da (by omega) o2 o3.a o3.xs.length o3.cap o3.xs rfl R4 (by have := HL.out; omega)).mono ?_
        rintro e w5 ⟨lv5, rfl, D5, F5, K5⟩
        have T5 := T4.turnA D5 _ F5 (fun k hk => hk) K5 (T4.ya.write HY.out)
        have HK5 := Lib.hid K5
        have HD5 := Lib.hid D5
        have hnt : ∀ x ∈ pa :: ba :: ob la, x ≠ wr.heap.size := fun x hx h0 => by have := HT.out.da.lt x hx; omega
        have B5 := B4.fr F5 (fun hm => hnt _ hm rfl)
        have c1' : w5.cell? ⟨wr.heap.size, 1, none⟩ = some (.int .i64 o2) := B5.cellAt rfl
        have c2' : w5.cell? ⟨wr.heap.size, 2, none⟩ = some (.slice o3.a o3.xs.length o3.cap) := B5.cellAt rfl
        have hR5 : Rd w5 o3.a (bv o3.xs) := (HP.out.fr0 T5.fr)
        have HNT := Lib.hid hnt
        clear K5 D5 hnt c1 c2 B3 B4
        have hsz5 := F5.size
        go_wp2_with fail
        refine (write_all T5.db (by omega) o2 o3.a o3.xs.length o3.cap o3.xs rfl hR5 (by have := HL.out; omega)).mono ?_
        rintro e w6 ⟨lv6, rfl, D6, F6, K6⟩
        have T6 := T5.turnB D6 _ F6 (fun k hk => hk) K6 (T5.yb.write HY.out)
        have R6 : Alike W pa ba pb bb safe.xs.length (.int .i64 (k + 1 : Nat)) w6 := ⟨k + 1, by omega, rfl, _, ⟨_, _, T6⟩, by rw [write_length]; exact HN.out, by have := write_loose d o2 o3.xs; have := HL.out; omega⟩
        have H6 := Lib.hid R6
        clear R6 K6 D6 F6 c1' c2' B5 T6 T5 T4 hR5 R4
        go_wp2_with fail
        go_roundw
        case rel => exact H6.out
        case measure => simp [intOf]; omega
      · have hi : ¬ ((k : Int) < (safe.xs.length : Int)) := by omega
        have HT := Lib.hid hT
        have HN := Lib.hid hN
        have HL := Lib.hid hL
        clear hT hN hL
        go_wp2_with fail
        refine (sync_calls HT.out.da).mono ?_
        rintro e w4 ⟨rfl, D4, F4⟩
        have T4 := HT.out.turnA D4 _ F4 (fun k hk => by simp at hk; simp [hk]) (fun k hk => by simp at hk) HT.out.ya.calm
        clear D4
        go_wp2_with fail
        refine (sync_calls T4.db).mono ?_
        rintro e w5 ⟨rfl, D5, F5⟩
        have T5 := T4.turnB D5 _ F5 (fun k hk => by simp at hk; simp [hk]) (fun k hk => by simp at hk) HT.out.yb.calm
        have R0 : Loosely W pa ba pb bb keep loose.xs.length (.int .i64 (0 : Nat)) (.int .i64 (0 : Nat)) w5 := by
          refine ⟨0, 0, Nat.zero_le _, rfl, rfl, Nat.le_refl _, _, _, ⟨_, _, T5⟩, ⟨rfl, undo_all _ _ (by simp), HN.out, HN.out, Nat.le_refl _⟩⟩
        have HR0 := Lib.hid R0
        clear R0 D5 T5 T4 F4 F5
        go_wp2_with fail
        go_loopw [13, 78] (fun c i wr => Loosely W pa ba pb bb keep loose.xs.length c i wr) (fun _ i _ => loose.xs.length - (intOf i).toNat)
        case atStart => exact HR0.out
        case round =>
          clear HT HN HL
          obtain ⟨k, count, hk, rfl, rfl, hck, da, db, ⟨la, lb, hT⟩, hM⟩ := hrel
          by_cases hlt : k < loose.xs.length
          · obtain ⟨o, ho⟩ : ∃ o, loose.xs[k]? = some o := ⟨_, List.getElem?_eq_getElem hlt⟩
            obtain ⟨b, off, ha, hr, hbl, hp⟩ := ops_at hloose k o ho
            obtain ⟨pbt, pr, ple, pcap⟩ := bytes_ok hp
            obtain ⟨o1, o2, o3, o4⟩ := o
            simp only at hr pbt pr ple pcap hp
            have hr2 := rangeAt_fr hr hT.fr (by simp)
            have i0 : (0 : Int) ≤ (k : Int) := by omega
            have i1 : (k : Int) < (loose.xs.length : Int) := by omega
            rw [ha]
            have HR := Lib.hid hr2
            have HT := Lib.hid hT
            have HP := Lib.hid pr
            have HY := Lib.hid pbt
            clear hr hr2 hT pr ha ho pbt hp
            have HM := Lib.hid hM
            clear hM
            have hc0 : (0 : Int) ≤ (count : Int) := by omega
            have hc1 : (count : Int) ≤ 100 := by omega
            have hf1 := HM.out.cnt
            have hf2 := HM.out.few
            have HF1 := Lib.hid hf1
            clear hf1
            go_wp2_with (first
              | refine wpList_load_mid rfl 36 _ rfl b (off + k * 3) rfl [.int .i64 o1, .int .i64 o2, o3.val] _ HR.out Try.underlying36 rfl (by exact op_size) ?_
              | (refine wpList_allocZ rfl 36 rfl _ op_zero ?_; intro w3 B3 F3 S3)
              | (refine wpList_storeB rfl 36 _ _ rfl wr.heap.size 0 [.int .i64 o1, .int .i64 o2, o3.val] (by rfl) (by rfl) 36 _ B3 (by simp) (by exact op_size) (by simp [SlV.val, Value.oneCell']) ?_; intro w4 B4 F4 S4; have c1 : w4.cell? ⟨wr.heap.size, 1, none⟩ = some (.int .i64 o2) := B4.cellAt rfl; have c2 : w4.cell? ⟨wr.heap.size, 2, none⟩ = some (.slice o3.a o3.xs.length o3.cap) := B4.cellAt rfl))
            have G4 : Fr [] wr w4 := F3.trans F4 (fun x hx hlt => by simp at hx; omega)
            have T4 := HT.out.calm G4
            have R4 : Rd w4 o3.a (bv o3.xs) := (HP.out.fr0 HT.out.fr).fr0 G4
            have hsz := HT.out.fr.size
            have hsz4 := G4.size
            have hfa : da.loose.length < 1000000000 := by have := HF1.out; omega
            refine (write_all T4.da (by omega) o2 o3.a o3.xs.length o3.cap o3.xs rfl R4 hfa).mono ?_
            rintro e w5 ⟨lv5, rfl, D5, F5, K5⟩
            have T5 := T4.turnA D5 _ F5 (fun k hk => hk) K5 (T4.ya.write HY.out)
            have hnt : ∀ x ∈ pa :: ba :: ob la, x ≠ wr.heap.size := fun x hx h0 => by have := HT.out.da.lt x hx; omega
            have B5 := B4.fr F5 (fun hm => hnt _ hm rfl)
            have c1' : w5.cell? ⟨wr.heap.size, 1, none⟩ = some (.int .i64 o2) := B5.cellAt rfl
            have c2' : w5.cell? ⟨wr.heap.size, 2, none⟩ = some (.slice o3.a o3.xs.length o3.cap) := B5.cellAt rfl
            have hR5 : Rd w5 o3.a (bv o3.xs) := (HP.out.fr0 T5.fr)
            clear K5 D5 hnt c1 c2 B3 B4
            have hsz5 := F5.size
            generalize hst : (da.write o2 o3.xs).1 = st
            have HST := Lib.hid hst
            clear hst
            by_cases hok : st = 0
            · subst hok
              by_cases hck2 : (count : Int) < keep
              · go_wp2_with fail
                refine (write_all T5.db (by omega) o2 o3.a o3.xs.length o3.cap o3.xs rfl hR5 (by omega)).mono ?_
                rintro e w6 ⟨lv6, rfl, D6, F6, K6⟩
                have T6 := T5.turnB D6 _ F6 (fun k hk => hk) K6 (T5.yb.write HY.out)
                have R6 : Loosely W pa ba pb bb keep loose.xs.length (.int .i64 (count + 1 : Nat)) (.int .i64 (k + 1 : Nat)) w6 := ⟨k + 1, count + 1, by omega, rfl, rfl, by omega, _, _, ⟨_, _, T6⟩, HM.out.both hck2 HST.out⟩
                have H6 := Lib.hid R6
                clear R6 K6 D6 F6 c1' c2' B5 T6 T5 T4 hR5 R4
                go_wp2_with fail
                go_roundw
                case rel => exact H6.out
                case measure => simp [intOf]; omega
              · have R6 : Loosely W pa ba pb bb keep loose.xs.length (.int .i64 (count + 1 : Nat)) (.int .i64 (k + 1 : Nat)) w5 := ⟨k + 1, count + 1, by omega, rfl, rfl, by omega, _, _, ⟨_, _, T5⟩, HM.out.one (by omega) (by omega) HST.out⟩
                have H6 := Lib.hid R6
                clear R6 c1' c2' B5 T5 T4 hR5 R4
                go_wp2_with fail
                go_roundw
                case rel => exact H6.out
                case measure => simp [intOf]; omega
            · have hb3 : (st == 0) = false := by simpa using hok
              have hno : (da.write o2 o3.xs).2 = da := write_no (by rw [HST.out]; exact hok)
              rw [hno] at T5
              have R6 : Loosely W pa ba pb bb keep loose.xs.length (.int .i64 (count : Nat)) (.int .i64 (k + 1 : Nat)) w5 := ⟨k + 1, count, by omega, rfl, rfl, by omega, _, _, ⟨_, _, T5⟩, HM.out⟩
              have H6 := Lib.hid R6
              clear R6 c1' c2' B5 T5 T4 hR5 R4 hno
              go_wp2_with fail
              go_roundw
              case rel => exact H6.out
              case measure => simp [intOf]; omega
          · have hi : ¬ ((k : Int) < (loose.xs.length : Int)) := by omega
            have HT := Lib.hid hT
            have HM := Lib.hid hM
            clear hT hM
            go_wp2_with fail
            refine (loose_calls HT.out.da).mono ?_
            rintro e w6 ⟨rfl, rfl⟩
            rw [HM.out.cnt]
            go_wp2_with fail
            refine (crash_calls HT.out.da keep (by omega)).mono ?_
            rintro e w7 ⟨rfl, D7, F7⟩
            have T7 := HT.out.turnA D7 _ F7 (fun k hk => by simp at hk; rcases hk with hk | hk <;> simp [hk]) (fun k hk => by simp at hk) ⟨undo_byt HT.out.ya _, by simp⟩
            clear D7 F7
            go_wp2_with fail
            refine (loose_calls T7.da).mono ?_
            rintro e w8 ⟨rfl, rfl⟩
            have R0 : Same14 W pa ba pb bb (.int .i64 (0 : Nat)) w7 := ⟨0, by omega, rfl, _, _, ⟨_, _, T7⟩, HM.out.now, by simp only; rw [undo_length]; exact HM.out.la⟩
            have HR0 := Lib.hid R0
            clear R0 T7
            go_wp2_with fail
            go_loopw [116] (fun i wr => Same14 W pa ba pb bb i wr) (fun i _ => 40 - (intOf i).toNat)
            case atStart => exact HR0.out
            case round =>
              clear HT HM
              obtain ⟨j, hj, rfl, a9, b9, ⟨l9, m9, hT9⟩, hab, hla⟩ := hrel
              have HT := Lib.hid hT9
              have HAB := Lib.hid hab
              have HLA := Lib.hid hla
              clear hT9 hab hla
              by_cases hlt9 : j < 40
              · have i0 : (0 : Int) ≤ (j : Int) := by omega
                have i1 : (j : Int) < 40 := by omega
                have hrn := read_now HAB.out (j : Int)
                have hr0 := read_in a9 j (by rw [HLA.out]; exact hlt9)
                have HRN := Lib.hid hrn
                have HR9 := Lib.hid hr0
                clear hrn hr0
                go_wp2_with fail
                refine (read_all HT.out.da j).mono ?_
                rintro e w8 ⟨v8, rfl, O8, F8⟩
                have T8 := HT.out.calm F8
                go_wp2_with fail
                refine (read_all T8.db j).mono ?_
                rintro e w9 ⟨v9, rfl, O9, F9⟩
                have T9 := T8.calm F9
                have O8' := O8.fr0 F9
                have y8 := HT.out.ya.read j
                rw [← HRN.out] at O9 ⊢
                rw [HR9.out]
                generalize (a9.read j).1 = X at *
                obtain ⟨a8, c8, hv8, _, _, r8⟩ := O8'.form
                obtain ⟨a7, c7, hv9, _, _, r9⟩ := O9.form
                rw [hv8, hv9]
                have R9 : Same14 W pa ba pb bb (.int .i64 (j + 1 : Nat)) w9 := ⟨j + 1, by omega, rfl, a9, b9, ⟨_, _, T9⟩, HAB.out, HLA.out⟩
                have H9 := Lib.hid R9
                clear R9 T9 T8 O8 O9 O8' hv8 hv9
                go_wp2_with fail
                refine (bytes_calls w9 a8 a7 c8 c7 _ _ X X rfl rfl y8 y8 r8 r9).mono ?_
                rintro e w9' ⟨rfl, rfl⟩
                simp only [decide_true]
                go_wp2_with fail
                go_roundw
                case rel => exact H9.out
                case measure => simp [intOf]; omega
              · have i1 : ¬ (j : Int) < 40 := by omega
                go_wp2_with fail
                go_ret
                exact ⟨rfl, HT.out.fr.below (Nat.le_refl _) (by simp)⟩
end Go.Fur
