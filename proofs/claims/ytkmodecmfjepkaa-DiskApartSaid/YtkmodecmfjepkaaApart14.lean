/- The walk of DiskApart. -/
import Derived.Test.YtkmodecmfjepkaaOps14
namespace Go.Fur
open Go Go.RowKit Go.Proofs
set_option linter.unusedVariables false
set_option linter.unusedSimpArgs false
/-- Some disk of so many blocks, at p, in a world that keeps all that was there. -/
def SomeDisk (W : World) (p bb : Nat) (n k : Nat) (wr : World) : Prop :=
  ∃ lv d, DiskAt wr W.heap.size p bb lv d ∧ d.byt ∧ d.now.length = n ∧ d.loose.length ≤ k ∧ Fr [] W wr
def ApartRel (W : World) (p bb : Nat) (len : Nat) (i : Value) (wr : World) : Prop := ∃ k : Nat, k ≤ len ∧ i = .int .i64 k ∧ SomeDisk W p bb 20 k wr
def XorRel (base : Nat) (v : Value) (n : Nat) (w : World) (i : Value) (wr : World) : Prop := ∃ (k : Nat) (l : List Int), k ≤ n ∧ i = .int .i64 k ∧ l.length = n ∧ Own wr base 5 1 v n (bv l) ∧ Fr (ob v) w wr
set_option maxRecDepth 100000 in
set_option maxHeartbeats 2000000 in
theorem DiskApart_walk (W : World) (ops : SlV Op14) (hops : rOps.ok W ops) (n : Int) (_ : rInt.ok W n) (m : Int) (_ : rInt.ok W m) (q : SlV Int) (hq : rBytes.ok W q) :
    Calls Try.prog 5 #[ops.val, .int .i64 n, .int .i64 m, q.val] W fun e w' => e = .returned (.bool true) ∧ Below W.heap.size W w' := by
  by_cases hlong : 100 < ops.xs.length
  · have h1 : (100 : Int) < (ops.xs.length : Int) := by omega
    simp only [SlV.val]
    go_enter Try.func5, Try.ntmps5
    go_wp2_with fail
    refine (awake_calls W).mono ?_
    rintro e w1 ⟨rfl, F1⟩
    go_wp2_with fail
    go_ret
    exact ⟨rfl, F1.below (Nat.le_refl _) (by simp)⟩
  · have h1 : ¬ (100 : Int) < (ops.xs.length : Int) := by omega
    simp only [SlV.val]
    go_enter Try.func5, Try.ntmps5
    go_wp2_with fail
    refine (awake_calls W).mono ?_
    rintro e w1 ⟨rfl, F1⟩
    go_wp2_with fail
    refine (new_all w1 20 (by omega) (by omega)).mono ?_
    rintro e w2 ⟨p, bb, rfl, D2, F2⟩
    have R0 : ApartRel W p bb ops.xs.length (.int .i64 (0 : Nat)) w2 := ⟨0, Nat.zero_le _, rfl, _, _, D2.wbase F1.size, D.new_byt 20, rfl, Nat.le_refl _, F1.trans F2 (by simp)⟩
    have H0 := Lib.hid R0
    clear R0 D2
    go_wp2_with fail
    go_loopw [34] (fun i wr => ApartRel W p bb ops.xs.length i wr) (fun i _ => ops.xs.length - (intOf i).toNat)
    case atStart => exact H0.out
    case round =>
      obtain ⟨k, hk, rfl, lv, d, hD, hB, hN, hL, hF⟩ := hrel
      by_cases hlt : k < ops.xs.length
      · obtain ⟨o, ho⟩ : ∃ o, ops.xs[k]? = some o := ⟨_, List.getElem?_eq_getElem hlt⟩
        obtain ⟨b, off, ha, hr, hbl, hp⟩ := ops_at hops k o ho
        obtain ⟨pb, pr, ple, pcap⟩ := bytes_ok hp
        obtain ⟨o1, o2, o3, o4⟩ := o
        simp only at hr pb pr ple pcap hp
        have hr2 := rangeAt_fr hr hF (by simp)
        have i0 : (0 : Int) ≤ (k : Int) := by omega
        have i1 : (k : Int) < (ops.xs.length : Int) := by omega
        rw [ha]
        have HR := Lib.hid hr2
        have HD := Lib.hid hD
        have HB := Lib.hid hB
        have HN := Lib.hid hN
        have HF := Lib.hid hF
        have HP := Lib.hid pr
        have HY := Lib.hid pb
        have HL := Lib.hid hL
        clear hr hr2 hD hB hN hF pr ha ho pb hp hL
        go_wp2_with (first
          | refine wpList_load_mid rfl 36 _ rfl b (off + k * 3) rfl [.int .i64 o1, .int .i64 o2, o3.val] _ HR.out Try.underlying36 rfl (by exact op_size) ?_
          | (refine wpList_allocZ rfl 36 rfl _ op_zero ?_; intro w3 B3 F3 S3)
          | (refine wpList_storeB rfl 36 _ _ rfl wr.heap.size 0 [.int .i64 o1, .int .i64 o2, o3.val] (by rfl) (by rfl) 36 _ B3 (by simp) (by exact op_size) (by simp [SlV.val, Value.oneCell']) ?_; intro w4 B4 F4 S4; have c1 : w4.cell? ⟨wr.heap.size, 1, none⟩ = some (.int .i64 o2) := B4.cellAt rfl; have c2 : w4.cell? ⟨wr.heap.size, 2, none⟩ = some (.slice o3.a o3.xs.length o3.cap) := B4.cellAt rfl))
        have G4 : Fr [] wr w4 := F3.trans F4 (fun x hx hlt => by simp at hx; omega)
        have hsz := HF.out.size
        have hsz4 := G4.size
        refine (write_all (HD.out.fr0 G4) (by omega) o2 o3.a o3.xs.length o3.cap o3.xs rfl ((HP.out.fr0 HF.out).fr0 G4) (by have := HL.out; omega)).mono ?_
        rintro e w5 ⟨lv5, rfl, D5, F5, K5⟩
        have R5 : ApartRel W p bb ops.xs.length (.int .i64 (k + 1 : Nat)) w5 := by
          refine ⟨k + 1, by omega, rfl, lv5, _, D5, HB.out.write HY.out, by rw [write_length]; exact HN.out, ?_, ?_⟩
          · have := write_loose d o2 o3.xs
            have := HL.out
            omega
          · exact (HF.out.trans0 G4).trans F5 (fun x hx hlt => by have := HD.out.ge x hx; omega)
        have H5 := Lib.hid R5
        clear R5 K5 D5 F5 c1 c2 B3 B4
        go_wp2_with fail
        go_roundw
        case rel => exact H5.out
        case measure => simp [intOf]; omega
      · have hke : k = ops.xs.length := by omega
        have hi : ¬ ((k : Int) < (ops.xs.length : Int)) := by omega
        have HD := Lib.hid hD
        have HB := Lib.hid hB
        have HN := Lib.hid hN
        have HF := Lib.hid hF
        have HL := Lib.hid hL
        clear hD hB hN hF hL hke
        go_wp2_with fail
        refine (read_all HD.out m).mono ?_
        rintro e w3 ⟨v3, rfl, O3, F3⟩
        go_wp2_with fail
        obtain ⟨qb, qr, qle, qcap⟩ := bytes_ok hq
        have hsz := HF.out.size
        have hsz3 := F3.size
        refine (write_all (HD.out.fr0 F3) (by omega) n q.a q.xs.length q.cap q.xs rfl ((qr.fr0 HF.out).fr0 F3) (by have := HL.out; omega)).mono ?_
        rintro e w4 ⟨lv4, rfl, D4, F4, K4⟩
        have HK4 := Lib.hid K4
        clear K4
        go_wp2_with fail
        refine (read_all D4 m).mono ?_
        rintro e w5 ⟨v5, rfl, O5, F5⟩
        have O3' : Own w5 wr.heap.size 5 1 v3 (d.read m).1.length (bv (d.read m).1) := (O3.fr F4 (fun x hx hm => by have := (O3.lt hx).1; have := HD.out.lt x hm; omega)).fr0 F5
        have D5 := D4.fr0 F5
        have G5 : Fr [] W w5 := ((HF.out.trans0 F3).trans F4 (fun x hx hlt => by have := HD.out.ge x hx; omega)).trans0 F5
        have B4 : (d.write n q.xs).2.byt := HB.out.write qb
        have hn4 := write_length d n q.xs
        have hsz4 : wr.heap.size ≤ w4.heap.size := by have := F4.size; omega
        have E1 := read_errno d (d.write n q.xs).2 m hn4.symm
        have b1 := HB.out.read m
        have b2 := B4.read m
        obtain ⟨a3, c3, hv3, _, _, r3⟩ := O3'.form
        obtain ⟨a5, c5, hv5, _, _, r5⟩ := O5.fr0 (Fr.refl [] w5) |>.form
        have hcase : (n ≠ m ∧ ((d.write n q.xs).2.read m).1 = (d.read m).1) ∨ (n = m ∧ (d.write n q.xs).1 ≠ 0) ∨ (n = m ∧ (d.write n q.xs).1 = 0 ∧ ((d.write n q.xs).2.read m).1 = pad q.xs ∧ q.xs.length ≤ 64) := by
          by_cases hnm : n = m
          · by_cases he : (d.write n q.xs).1 = 0
            · have := read_write_same d n q.xs he
              exact .inr (.inr ⟨hnm, he, by rw [← hnm, this.1], this.2⟩)
            · exact .inr (.inl ⟨hnm, he⟩)
          · exact .inl ⟨hnm, by rw [read_write_other d n m q.xs hnm]⟩
        have hyl : ((d.write n q.xs).2.read m).1.length ≤ 64 := by
          have h64 := D5.wf.now
          unfold D.read
          split
          · simp
          · rename_i h8
            simp only
            rw [List.getD_eq_getElem?_getD, List.getElem?_eq_getElem (by omega)]
            exact Nat.le_of_eq (h64 _ (List.getElem_mem _))
        rw [hv3, hv5, ← E1]
        have G15 : ∀ k ∈ p :: bb :: ob lv4, k < w4.heap.size := fun k hk => by
          have := D4.lt k hk
          exact this
        have hv5b : ∀ k ∈ ob v5, w4.heap.size ≤ k := fun k hk => (O5.lt hk).1
        have hO5 := O5
        rw [hv5] at hO5 hv5b
        generalize hX : (d.read m).1 = X at *
        generalize hY : ((d.write n q.xs).2.read m).1 = Y at *
        generalize hd' : (d.write n q.xs).2 = d' at *
        generalize (d.write n q.xs).1 = er at *
        generalize (d.read m).2 = f at *
        have HY := Lib.hid hY
        have HC := Lib.hid hcase
        have HG5 := Lib.hid G5
        have HD5 := Lib.hid D5
        have HO5 := Lib.hid hO5
        have H15 := Lib.hid G15
        have HV5 := Lib.hid hv5b
        have hqr : Rd w5 q.a (bv q.xs) := qr.fr0 G5
        have HQR := Lib.hid hqr
        clear hX hY hd' hcase G5 D5 hO5 G15 hv5b hqr E1 hv3 hv5 O5 O3' O3 F3 F4 F5 HK4 D4 HL HF HN HB HD F1 F2 H0 hn4 qr
        rcases HC.out with ⟨hnm, rfl⟩ | ⟨rfl, he⟩ | ⟨rfl, rfl, hyp, hq64⟩
        · have hb1 : (n != m) = true := by simpa using hnm
          have hb2 : (n == m) = false := by simpa using hnm
          clear HC
          by_cases he : er = 0
          · subst he
            go_wp2_with fail
            refine (bytes_calls w5 a3 a5 c3 c5 _ _ Y Y rfl rfl b1 b2 r3 r5).mono ?_
            rintro e w5' ⟨rfl, rfl⟩
            simp only [decide_true]
            go_wp2_with fail
            refine (twin_calls w5 a5 c5 Y.length Y rfl (by omega) r5).mono ?_
            rintro e w6 ⟨v6, rfl, O6, F6⟩
            have HO6 := Lib.hid O6
            have R0 : XorRel w4.heap.size (.slice a5 Y.length c5) Y.length w6 (.int .i64 (0 : Nat)) w6 := ⟨0, Y, Nat.zero_le _, rfl, rfl, HO5.out.fr0 F6, Fr.refl _ _⟩
            have HR0 := Lib.hid R0
            clear R0 O6
            go_wp2_with fail
            go_loopw [100] (fun i wx => XorRel w4.heap.size (.slice a5 Y.length c5) Y.length w6 i wx) (fun i _ => Y.length - (intOf i).toNat)
            case atStart => exact HR0.out
            case round =>
              obtain ⟨j, l, hj, rfl, hl, hO, hX⟩ := hrel
              by_cases hjl : j < Y.length
              · obtain ⟨g1, cap1, cur1, x1, hv1, hg1, hb1', hn1, hx1, hc1, hst1⟩ := hO.byteAt j hjl
                simp only [Value.slice.injEq] at hv1
                obtain ⟨ha1, _, hc1'⟩ := hv1
                have i0 : (0 : Int) ≤ (j : Int) := by omega
                have i1 : (j : Int) < (Y.length : Int) := by omega
                have HA1 := Lib.hid ha1
                have HB1 := Lib.hid hb1'
                have HST := Lib.hid hst1
                have HX := Lib.hid hX
                have HN1 := Lib.hid hn1
                have HL1 := Lib.hid hl
                clear hO hb1' hst1 hX hn1 hc1' ha1 hl hx1
                rw [HA1.out]
                go_wp2_with (refine wpList_store1 rfl 5 _ _ rfl g1 j _ (by rfl) (by rfl) rfl 5 cur1 HB1.out (by have := HN1.out; omega) (by kernel_rfl) rfl ?_; intro w7 B7 F7 S7)
                have R7 : XorRel w4.heap.size (.slice a5 Y.length c5) Y.length w6 (.int .i64 (j + 1 : Nat)) w7 := by
                  refine ⟨j + 1, _, by omega, rfl, ?_, HST.out w7 _ B7, HX.out.trans F7 (fun k hk _ => ?_)⟩
                  · rw [List.length_set]
                    exact HL1.out
                  · simp only [List.mem_singleton] at hk
                    subst hk
                    rw [HA1.out]
                    simp
                rw [HA1.out] at R7
                have HR7 := Lib.hid R7
                clear R7 B7
                go_roundw
                case rel => exact HR7.out
                case measure => simp [intOf]; omega
              · have hi2 : ¬ ((j : Int) < (Y.length : Int)) := by omega
                have HX := Lib.hid hX
                clear hX hO hl
                go_wp2_with fail
                have D7 := ((HD5.out.fr0 F6).fr HX.out (fun h0 => by have := HV5.out p h0; have := H15.out p (by simp); omega) (fun h0 => by have := HV5.out bb h0; have := H15.out bb (by simp); omega) (fun k hk h0 => by have := HV5.out k h0; have := H15.out k (by simp [hk]); omega))
                refine (read_all D7 m).mono ?_
                rintro e w8 ⟨v8, rfl, O8, F8⟩
                rw [HY.out] at O8
                have O6' := (HO6.out.fr HX.out (fun k hk h0 => by have := (HO6.out.lt hk).1; have := (HO5.out.lt h0).2; omega)).fr0 F8
                obtain ⟨a8, c8, hv8, _, _, r8⟩ := O8.form
                obtain ⟨a6, c6, hv6, _, _, r6⟩ := O6'.form
                rw [hv8, hv6]
                clear hv8 hv6 O8 O6'
                go_wp2_with fail
                refine (bytes_calls w8 a8 a6 c8 c6 _ _ Y Y rfl rfl b2 b2 r8 r6).mono ?_
                rintro e w8' ⟨rfl, rfl⟩
                simp only [decide_true]
                go_wp2_with fail
                go_ret
                refine ⟨rfl, Fr.below (S := []) ?_ (Nat.le_refl _) (by simp)⟩
                exact (((HG5.out.trans0 F6).trans HX.out (fun k hk hlt => by have := (HO5.out.lt hk).1; omega))).trans0 F8
          · have hb3 : (er == 0) = false := by simpa using he
            go_wp2_with fail
            refine (bytes_calls w5 a3 a5 c3 c5 _ _ Y Y rfl rfl b1 b2 r3 r5).mono ?_
            rintro e w5' ⟨rfl, rfl⟩
            simp only [decide_true]
            go_wp2_with fail
            refine (twin_calls w5 a5 c5 Y.length Y rfl (by omega) r5).mono ?_
            rintro e w6 ⟨v6, rfl, O6, F6⟩
            have HO6 := Lib.hid O6
            have R0 : XorRel w4.heap.size (.slice a5 Y.length c5) Y.length w6 (.int .i64 (0 : Nat)) w6 := ⟨0, Y, Nat.zero_le _, rfl, rfl, HO5.out.fr0 F6, Fr.refl _ _⟩
            have HR0 := Lib.hid R0
            clear R0 O6
            go_wp2_with fail
            go_loopw [100] (fun i wx => XorRel w4.heap.size (.slice a5 Y.length c5) Y.length w6 i wx) (fun i _ => Y.length - (intOf i).toNat)
            case atStart => exact HR0.out
            case round =>
              obtain ⟨j, l, hj, rfl, hl, hO, hX⟩ := hrel
              by_cases hjl : j < Y.length
              · obtain ⟨g1, cap1, cur1, x1, hv1, hg1, hb1', hn1, hx1, hc1, hst1⟩ := hO.byteAt j hjl
                simp only [Value.slice.injEq] at hv1
                obtain ⟨ha1, _, hc1'⟩ := hv1
                have i0 : (0 : Int) ≤ (j : Int) := by omega
                have i1 : (j : Int) < (Y.length : Int) := by omega
                have HA1 := Lib.hid ha1
                have HB1 := Lib.hid hb1'
                have HST := Lib.hid hst1
                have HX := Lib.hid hX
                have HN1 := Lib.hid hn1
                have HL1 := Lib.hid hl
                clear hO hb1' hst1 hX hn1 hc1' ha1 hl hx1
                rw [HA1.out]
                go_wp2_with (refine wpList_store1 rfl 5 _ _ rfl g1 j _ (by rfl) (by rfl) rfl 5 cur1 HB1.out (by have := HN1.out; omega) (by kernel_rfl) rfl ?_; intro w7 B7 F7 S7)
                have R7 : XorRel w4.heap.size (.slice a5 Y.length c5) Y.length w6 (.int .i64 (j + 1 : Nat)) w7 := by
                  refine ⟨j + 1, _, by omega, rfl, ?_, HST.out w7 _ B7, HX.out.trans F7 (fun k hk _ => ?_)⟩
                  · rw [List.length_set]
                    exact HL1.out
                  · simp only [List.mem_singleton] at hk
                    subst hk
                    rw [HA1.out]
                    simp
                rw [HA1.out] at R7
                have HR7 := Lib.hid R7
                clear R7 B7
                go_roundw
                case rel => exact HR7.out
                case measure => simp [intOf]; omega
              · have hi2 : ¬ ((j : Int) < (Y.length : Int)) := by omega
                have HX := Lib.hid hX
                clear hX hO hl
                go_wp2_with fail
                have D7 := ((HD5.out.fr0 F6).fr HX.out (fun h0 => by have := HV5.out p h0; have := H15.out p (by simp); omega) (fun h0 => by have := HV5.out bb h0; have := H15.out bb (by simp); omega) (fun k hk h0 => by have := HV5.out k h0; have := H15.out k (by simp [hk]); omega))
                refine (read_all D7 m).mono ?_
                rintro e w8 ⟨v8, rfl, O8, F8⟩
                rw [HY.out] at O8
                have O6' := (HO6.out.fr HX.out (fun k hk h0 => by have := (HO6.out.lt hk).1; have := (HO5.out.lt h0).2; omega)).fr0 F8
                obtain ⟨a8, c8, hv8, _, _, r8⟩ := O8.form
                obtain ⟨a6, c6, hv6, _, _, r6⟩ := O6'.form
                rw [hv8, hv6]
                clear hv8 hv6 O8 O6'
                go_wp2_with fail
                refine (bytes_calls w8 a8 a6 c8 c6 _ _ Y Y rfl rfl b2 b2 r8 r6).mono ?_
                rintro e w8' ⟨rfl, rfl⟩
                simp only [decide_true]
                go_wp2_with fail
                go_ret
                refine ⟨rfl, Fr.below (S := []) ?_ (Nat.le_refl _) (by simp)⟩
                exact (((HG5.out.trans0 F6).trans HX.out (fun k hk hlt => by have := (HO5.out.lt hk).1; omega))).trans0 F8
        · have hb3 : (er == 0) = false := by simpa using he
          clear HC
          go_wp2_with fail
          refine (twin_calls w5 a5 c5 Y.length Y rfl (by omega) r5).mono ?_
          rintro e w6 ⟨v6, rfl, O6, F6⟩
          have HO6 := Lib.hid O6
          have R0 : XorRel w4.heap.size (.slice a5 Y.length c5) Y.length w6 (.int .i64 (0 : Nat)) w6 := ⟨0, Y, Nat.zero_le _, rfl, rfl, HO5.out.fr0 F6, Fr.refl _ _⟩
          have HR0 := Lib.hid R0
          clear R0 O6
          go_wp2_with fail
          go_loopw [100] (fun i wx => XorRel w4.heap.size (.slice a5 Y.length c5) Y.length w6 i wx) (fun i _ => Y.length - (intOf i).toNat)
          case atStart => exact HR0.out
          case round =>
            obtain ⟨j, l, hj, rfl, hl, hO, hX⟩ := hrel
            by_cases hjl : j < Y.length
            · obtain ⟨g1, cap1, cur1, x1, hv1, hg1, hb1', hn1, hx1, hc1, hst1⟩ := hO.byteAt j hjl
              simp only [Value.slice.injEq] at hv1
              obtain ⟨ha1, _, hc1'⟩ := hv1
              have i0 : (0 : Int) ≤ (j : Int) := by omega
              have i1 : (j : Int) < (Y.length : Int) := by omega
              have HA1 := Lib.hid ha1
              have HB1 := Lib.hid hb1'
              have HST := Lib.hid hst1
              have HX := Lib.hid hX
              have HN1 := Lib.hid hn1
              have HL1 := Lib.hid hl
              clear hO hb1' hst1 hX hn1 hc1' ha1 hl hx1
              rw [HA1.out]
              go_wp2_with (refine wpList_store1 rfl 5 _ _ rfl g1 j _ (by rfl) (by rfl) rfl 5 cur1 HB1.out (by have := HN1.out; omega) (by kernel_rfl) rfl ?_; intro w7 B7 F7 S7)
              have R7 : XorRel w4.heap.size (.slice a5 Y.length c5) Y.length w6 (.int .i64 (j + 1 : Nat)) w7 := by
                refine ⟨j + 1, _, by omega, rfl, ?_, HST.out w7 _ B7, HX.out.trans F7 (fun k hk _ => ?_)⟩
                · rw [List.length_set]
                  exact HL1.out
                · simp only [List.mem_singleton] at hk
                  subst hk
                  rw [HA1.out]
                  simp
              rw [HA1.out] at R7
              have HR7 := Lib.hid R7
              clear R7 B7
              go_roundw
              case rel => exact HR7.out
              case measure => simp [intOf]; omega
            · have hi2 : ¬ ((j : Int) < (Y.length : Int)) := by omega
              have HX := Lib.hid hX
              clear hX hO hl
              go_wp2_with fail
              have D7 := ((HD5.out.fr0 F6).fr HX.out (fun h0 => by have := HV5.out p h0; have := H15.out p (by simp); omega) (fun h0 => by have := HV5.out bb h0; have := H15.out bb (by simp); omega) (fun k hk h0 => by have := HV5.out k h0; have := H15.out k (by simp [hk]); omega))
              refine (read_all D7 n).mono ?_
              rintro e w8 ⟨v8, rfl, O8, F8⟩
              rw [HY.out] at O8
              have O6' := (HO6.out.fr HX.out (fun k hk h0 => by have := (HO6.out.lt hk).1; have := (HO5.out.lt h0).2; omega)).fr0 F8
              obtain ⟨a8, c8, hv8, _, _, r8⟩ := O8.form
              obtain ⟨a6, c6, hv6, _, _, r6⟩ := O6'.form
              rw [hv8, hv6]
              clear hv8 hv6 O8 O6'
              go_wp2_with fail
              refine (bytes_calls w8 a8 a6 c8 c6 _ _ Y Y rfl rfl b2 b2 r8 r6).mono ?_
              rintro e w8' ⟨rfl, rfl⟩
              simp only [decide_true]
              go_wp2_with fail
              go_ret
              refine ⟨rfl, Fr.below (S := []) ?_ (Nat.le_refl _) (by simp)⟩
              exact (((HG5.out.trans0 F6).trans HX.out (fun k hk hlt => by have := (HO5.out.lt hk).1; omega))).trans0 F8
        · have h64 : Y.length = 64 := by rw [hyp]; exact pad_length _ hq64
          have hbl : (Y.take q.xs.length) = q.xs := by rw [hyp]; exact pad_take _
          have hb4 : ((Y.length : Int) != 64) = false := by rw [h64]; rfl
          obtain ⟨g, cap, cur, hg1, hg2, hg3, hg4, _⟩ := HO5.out.blk (by omega)
          simp only [Value.slice.injEq] at hg1
          obtain ⟨ha5, _, hc5⟩ := hg1
          subst ha5 hc5
          have hqc : (q.xs.length : Int) ≤ (c5 : Int) := by omega
          have r5t : Rd w5 (some ⟨g, 0, none⟩) (bv q.xs) := by
            intro hne
            obtain ⟨b0, o0, hb0, hr0⟩ := r5 (fun h0 => by have := congrArg List.length h0; rw [bv_length, h64] at this; simp at this)
            refine ⟨b0, o0, hb0, fun j v hv => hr0 j v ?_⟩
            rw [← hbl, bv_take, List.getElem?_take] at hv
            split at hv
            · exact hv
            · cases hv
          have H64 := Lib.hid h64
          have HBL := Lib.hid hbl
          clear HC h64 hbl hyp hg3
          go_wp2_with fail
          refine (bytes_calls w5 (some ⟨g, 0, none⟩) q.a c5 q.cap _ _ q.xs q.xs rfl rfl qb qb r5t HQR.out).mono ?_
          rintro e w5' ⟨rfl, rfl⟩
          simp only [decide_true]
          go_wp2_with fail
          refine (twin_calls w5 (some ⟨g, 0, none⟩) c5 Y.length Y rfl (by omega) r5).mono ?_
          rintro e w6 ⟨v6, rfl, O6, F6⟩
          have HO6 := Lib.hid O6
          have R0 : XorRel w4.heap.size (.slice (some ⟨g, 0, none⟩) Y.length c5) Y.length w6 (.int .i64 (0 : Nat)) w6 := ⟨0, Y, Nat.zero_le _, rfl, rfl, HO5.out.fr0 F6, Fr.refl _ _⟩
          have HR0 := Lib.hid R0
          clear R0 O6
          go_wp2_with fail
          go_loopw [100] (fun i wx => XorRel w4.heap.size (.slice (some ⟨g, 0, none⟩) Y.length c5) Y.length w6 i wx) (fun i _ => Y.length - (intOf i).toNat)
          case atStart => exact HR0.out
          case round =>
            obtain ⟨j, l, hj, rfl, hl, hO, hX⟩ := hrel
            by_cases hjl : j < Y.length
            · obtain ⟨g1, cap1, cur1, x1, hv1, hg1, hb1', hn1, hx1, hc1, hst1⟩ := hO.byteAt j hjl
              simp only [Value.slice.injEq] at hv1
              obtain ⟨ha1, _, hc1'⟩ := hv1
              have i0 : (0 : Int) ≤ (j : Int) := by omega
              have i1 : (j : Int) < (Y.length : Int) := by omega
              have HA1 := Lib.hid ha1
              have HB1 := Lib.hid hb1'
              have HST := Lib.hid hst1
              have HX := Lib.hid hX
              have HN1 := Lib.hid hn1
              have HL1 := Lib.hid hl
              clear hO hb1' hst1 hX hn1 hc1' ha1 hl hx1
              rw [HA1.out]
              go_wp2_with (refine wpList_store1 rfl 5 _ _ rfl g1 j _ (by rfl) (by rfl) rfl 5 cur1 HB1.out (by have := HN1.out; omega) (by kernel_rfl) rfl ?_; intro w7 B7 F7 S7)
              have R7 : XorRel w4.heap.size (.slice (some ⟨g, 0, none⟩) Y.length c5) Y.length w6 (.int .i64 (j + 1 : Nat)) w7 := by
                refine ⟨j + 1, _, by omega, rfl, ?_, HST.out w7 _ B7, HX.out.trans F7 (fun k hk _ => ?_)⟩
                · rw [List.length_set]
                  exact HL1.out
                · simp only [List.mem_singleton] at hk
                  subst hk
                  rw [HA1.out]
                  simp
              rw [HA1.out] at R7
              have HR7 := Lib.hid R7
              clear R7 B7
              go_roundw
              case rel => exact HR7.out
              case measure => simp [intOf]; omega
            · have hi2 : ¬ ((j : Int) < (Y.length : Int)) := by omega
              have HX := Lib.hid hX
              clear hX hO hl
              go_wp2_with fail
              have D7 := ((HD5.out.fr0 F6).fr HX.out (fun h0 => by have := HV5.out p h0; have := H15.out p (by simp); omega) (fun h0 => by have := HV5.out bb h0; have := H15.out bb (by simp); omega) (fun k hk h0 => by have := HV5.out k h0; have := H15.out k (by simp [hk]); omega))
              refine (read_all D7 n).mono ?_
              rintro e w8 ⟨v8, rfl, O8, F8⟩
              rw [HY.out] at O8
              have O6' := (HO6.out.fr HX.out (fun k hk h0 => by have := (HO6.out.lt hk).1; have := (HO5.out.lt h0).2; omega)).fr0 F8
              obtain ⟨a8, c8, hv8, _, _, r8⟩ := O8.form
              obtain ⟨a6, c6, hv6, _, _, r6⟩ := O6'.form
              rw [hv8, hv6]
              clear hv8 hv6 O8 O6'
              go_wp2_with fail
              refine (bytes_calls w8 a8 a6 c8 c6 _ _ Y Y rfl rfl b2 b2 r8 r6).mono ?_
              rintro e w8' ⟨rfl, rfl⟩
              simp only [decide_true]
              go_wp2_with fail
              go_ret
              refine ⟨rfl, Fr.below (S := []) ?_ (Nat.le_refl _) (by simp)⟩
              exact (((HG5.out.trans0 F6).trans HX.out (fun k hk hlt => by have := (HO5.out.lt hk).1; omega))).trans0 F8
end Go.Fur
