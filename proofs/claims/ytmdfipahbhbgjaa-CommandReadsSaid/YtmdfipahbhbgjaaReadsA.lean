/- The document's reading of numbers: begins, GetNum, GetWhole: contracts. -/
import Derived.Test.YtmdfipahbhbgjaaRefN
import Derived.Test.YtmdfipahbhbgjaaCmdR
import Derived.Test.YtmdfipahbhbgjaaCmdD
import Derived.Test.YtmdfipahbhbgjaaCmdA
import Derived.Test.YtmdfipahbhbgjaaCmdR3
import Derived.Test.YtmdfipahbhbgjaaTwinS
namespace Go.Fur
open Go Go.RowKit Go.Proofs
set_option linter.unusedVariables false
set_option linter.unusedSimpArgs false
def BegR (k : Nat) (w : World) (x s i : Value) (wr : World) : Prop := ∃ m : Nat, 1 ≤ m ∧ m ≤ k ∧ x = .int .u64 (sh (m - 1)) ∧ s = .int .u64 (256 ^ m % 18446744073709551616 : Nat) ∧ i = .int .i64 m ∧ w = wr
set_option maxRecDepth 100000 in
set_option maxHeartbeats 1000000 in
theorem begins_calls (w : World) (k : Nat) (h1 : 1 ≤ k) (h8 : k ≤ 8) : Calls Try.prog 102 #[.int .i64 k] w fun e w' => e = .returned (.int .u64 (sh (k - 1))) ∧ w = w' := by
  go_enter Try.func102, Try.ntmps102
  go_wp2_with fail
  go_loopw [3, 4, 5] (fun x s i wr => BegR k w x s i wr) (fun _ _ i _ => 9 - (intOf i).toNat)
  case atStart => exact ⟨1, Nat.le_refl _, h1, by rw [sh_vals.1]; rfl, rfl, rfl, rfl⟩
  case round =>
    obtain ⟨m, hm1, hmk, rfl, rfl, rfl, rfl⟩ := hrel
    by_cases hlt : m < k
    · have hb : (m : Int) < (k : Int) := by omega
      obtain ⟨s1, s2, s3, s4, s5⟩ := sh_step m hm1 (by omega)
      rw [s2]
      have HR := Lib.hid (show BegR k w (.int .u64 (sh (m + 1 - 1))) (.int .u64 (256 ^ (m + 1) % 18446744073709551616 : Nat)) (.int .i64 (m + 1 : Nat)) w from ⟨m + 1, by omega, by omega, rfl, rfl, rfl, rfl⟩)
      have ha : IntKind.u64.wrap ((sh (m - 1) : Int) + ((256 ^ m : Nat) : Int)) = (sh (m + 1 - 1) : Int) := by rw [IntKind.wrap_u64, Nat.add_sub_cancel]; omega
      have hmm : IntKind.u64.wrap (((256 ^ m : Nat) : Int) * 256) = ((256 ^ (m + 1) % 18446744073709551616 : Nat) : Int) := by rw [IntKind.wrap_u64, s5]; omega
      generalize 256 ^ (m + 1) % 18446744073709551616 = z1 at *
      generalize 256 ^ m = z at *
      generalize sh (m + 1 - 1) = t1 at *
      generalize sh (m - 1) = t at *
      clear s1 s2 s3 s4 s5
      go_wp2_with fail
      go_roundw
      case rel => exact HR.out
      case measure => simp [intOf] <;> omega
    · have hb : ¬ (m : Int) < (k : Int) := by omega
      have hmk2 : m = k := by omega
      subst hmk2
      generalize 256 ^ m % 18446744073709551616 = z at *
      go_wp2_with fail
      go_ret
      exact ⟨rfl, rfl⟩
def GetR (w : World) (t : List Int) (k : Nat) (x i : Value) (wr : World) : Prop := ∃ m : Nat, m ≤ k ∧ x = .int .u64 (n256 (t.take m)) ∧ i = .int .i64 m ∧ w = wr
set_option maxRecDepth 100000 in
set_option maxHeartbeats 1000000 in
theorem getNum_calls (w : World) (a : Option Addr) (n c : Nat) (l : List Int) (hl : l.length = n) (hc : n ≤ c) (hn : n ≤ 140737488355328) (hb : Byt l) (ra : Rd w a (bv l)) (at_ : Int) :
    Calls Try.prog 81 #[.slice a n c, .int .i64 at_] w (ReadE (readN l at_) w) := by
  subst hl
  by_cases h0 : at_ < 0
  · have e : readN l at_ = (0, 0, 1) := by unfold readN; rw [if_pos (.inl h0)]
    rw [e]
    clear e
    go_enter Try.func81, Try.ntmps81
    go_wp2_with fail
    go_ret3
    exact ⟨rfl, rfl⟩
  by_cases h1 : (l.length : Int) < at_
  · have e : readN l at_ = (0, 0, 1) := by unfold readN; rw [if_pos (.inr h1)]
    rw [e]
    clear e
    go_enter Try.func81, Try.ntmps81
    go_wp2_with fail
    go_ret3
    exact ⟨rfl, rfl⟩
  obtain ⟨i, rfl⟩ := Int.eq_ofNat_of_zero_le (show 0 ≤ at_ by omega)
  have hi : i ≤ l.length := by omega
  by_cases h2 : i = l.length
  · have e : readN l i = (0, (i : Int), 5) := by
      unfold readN
      rw [if_neg (by omega), Int.toNat_natCast, List.drop_eq_nil_of_le (by omega)]
    rw [e]
    clear e
    subst h2
    clear hi
    go_enter Try.func81, Try.ntmps81
    go_wp2_with fail
    go_ret3
    exact ⟨rfl, rfl⟩
  have hlt : i < l.length := by omega
  obtain ⟨h, t, hd⟩ : ∃ h t, l.drop i = h :: t := ⟨l[i], l.drop (i + 1), by rw [List.drop_eq_getElem_cons hlt]⟩
  have hli : l[i]? = some h := by
    have := congrArg (·[0]?) hd
    simpa using this
  have ht : t = l.drop (i + 1) := by
    have := congrArg List.tail hd
    simpa using this.symm
  have hby := hb h (List.mem_of_getElem? hli)
  have htl : t.length + i + 1 = l.length := by rw [ht, List.length_drop]; omega
  obtain ⟨b, o, rfl, hr⟩ := ra (by intro e; have := congrArg List.length e; simp at this; subst this; simp at hlt)
  have hcell : w.cell? ⟨b, o + i, none⟩ = some (.int .u8 h) := hr i _ (by rw [bv_get, hli]; rfl)
  have hRr : readN l i = if h < 192 then (h, (i : Int) + 1, 0) else if 199 < h then (0, (i : Int), 4) else
    if t.length < (h - 191).toNat then (0, (l.length : Int), 5) else
    if 18446744073709551616 ≤ n256 (t.take (h - 191).toNat) + sh ((h - 191).toNat - 1) then (0, (i : Int), 4) else
    ((n256 (t.take (h - 191).toNat) + sh ((h - 191).toNat - 1) : Nat), (i : Int) + 1 + ((h - 191).toNat : Int), 0) := by
      unfold readN
      rw [if_neg (by omega), Int.toNat_natCast, hd]
  have i0 : ((i : Int) == (l.length : Int)) = false := by simp; omega
  have i1 : ¬ (i : Int) < 0 := by omega
  have i2 : ¬ (l.length : Int) < (i : Int) := by omega
  have i3 : (i : Int) < (l.length : Int) := by omega
  have i4 : (0 : Int) ≤ (i : Int) := by omega
  have hby0 := hby.1
  have hby1 := hby.2
  have HR := Lib.hid hr
  have HD := Lib.hid (And.intro hd (And.intro hli ht))
  generalize readN l (i : Int) = r at *
  have HB := Lib.hid hb
  clear hr hd hli ht hb h0 h1 h2 hby ra
  by_cases h3 : h < 192
  · rw [if_pos h3] at hRr
    subst hRr
    go_enter Try.func81, Try.ntmps81
    go_wp2_with fail
    go_ret3
    exact ⟨rfl, rfl⟩
  rw [if_neg h3] at hRr
  by_cases h4 : 199 < h
  · rw [if_pos h4] at hRr
    subst hRr
    have h4b : 200 ≤ h := by omega
    have h3b : ¬ h < 192 := h3
    go_enter Try.func81, Try.ntmps81
    go_wp2_with fail
    go_ret3
    exact ⟨rfl, rfl⟩
  rw [if_neg h4] at hRr
  have h4b : ¬ 200 ≤ h := by omega
  obtain ⟨k, hk⟩ : ∃ k : Nat, h - 191 = (k : Int) := ⟨(h - 191).toNat, by omega⟩
  have hk1 : 1 ≤ k := by omega
  have hk8 : k ≤ 8 := by omega
  rw [hk, Int.toNat_natCast] at hRr
  by_cases h5 : t.length < k
  · rw [if_pos h5] at hRr
    subst hRr
    have h5b : (l.length : Int) - (i : Int) - 1 < (k : Int) := by omega
    clear htl h5 hi hlt hk1 hk8
    go_enter Try.func81, Try.ntmps81
    go_wp2_with fail
    go_ret3
    exact ⟨rfl, rfl⟩
  rw [if_neg h5] at hRr
  have h5b : ¬ (l.length : Int) - (i : Int) - 1 < (k : Int) := by omega
  have HRr := Lib.hid hRr
  have HTL := Lib.hid htl
  clear hRr htl
  go_enter Try.func81, Try.ntmps81
  go_wp2_with fail
  go_loopw [8, 9] (fun x j wr => GetR w t k x j wr) (fun _ j _ => 9 - (intOf j).toNat)
  case atStart => exact ⟨0, Nat.zero_le _, by simp [n256], rfl, rfl⟩
  case round =>
    obtain ⟨m, hm, rfl, rfl, rfl⟩ := hrel
    by_cases hmk : m < k
    · have hb : (m : Int) < (k : Int) := by omega
      obtain ⟨y, hy⟩ : ∃ y, t[m]? = some y := ⟨t[m]'(by omega), List.getElem?_eq_getElem (by omega)⟩
      have hyl : l[i + 1 + m]? = some y := by
        rw [HD.out.2.2, List.getElem?_drop] at hy
        exact hy
      have hyb := HB.out y (List.mem_of_getElem? hyl)
      have hyc : w.cell? ⟨b, o + (i + 1 + m), none⟩ = some (.int .u8 y) := HR.out _ _ (by rw [bv_get, hyl]; rfl)
      have hsn : t.take (m + 1) = t.take m ++ [y] := by rw [List.take_add_one, hy]; rfl
      have hbt : Byt (t.take m) := fun z hz => HB.out z (by rw [HD.out.2.2] at hz; exact List.mem_of_mem_drop (List.mem_of_mem_take hz))
      have hlt2 := n256_lt (t.take m) hbt
      have hlm : (t.take m).length = m := by rw [List.length_take]; omega
      rw [hlm] at hlt2
      have hp : 256 ^ m ≤ 256 ^ 7 := Nat.pow_le_pow_right (by omega) (by omega)
      have hnx : n256 (t.take m) < 72057594037927936 := by omega
      have hnew : (n256 (t.take m) : Int) * 256 + y = (n256 (t.take (m + 1)) : Int) := by rw [hsn, n256_snoc]; omega
      have HN := Lib.hid hnew
      have htl := HTL.out
      clear hy hyl hsn hbt hlt2 hlm hp hnew
      generalize n256 (t.take m) = X at *
      obtain ⟨q, hq⟩ : ∃ q : Nat, i + 1 + m = q := ⟨_, rfl⟩
      have hqi : (i : Int) + 1 + (m : Int) = (q : Int) := by omega
      have hql : (q : Int) < (l.length : Int) := by omega
      have hq0 : (0 : Int) ≤ (q : Int) := by omega
      rw [hq] at hyc
      have hXb : (X : Int) < 72057594037927936 := by omega
      obtain ⟨z, rfl⟩ := Int.eq_ofNat_of_zero_le hyb.1
      have hz := hyb.2
      clear hq htl hyb h5 hnx h5b
      go_wp2_with fail
      have HR2 := Lib.hid (show GetR w t k (.int .u64 (n256 (t.take (m + 1)))) (.int .i64 (m + 1 : Nat)) w from ⟨m + 1, by omega, rfl, rfl, rfl⟩)
      rw [← HN.out] at HR2
      go_roundw
      case rel => exact HR2.out
      case measure => simp [intOf] <;> omega
    · have hmk2 : m = k := by omega
      subst hmk2
      have hnb := n256_lt (t.take m) (fun z hz => HB.out z (by rw [HD.out.2.2] at hz; exact List.mem_of_mem_drop (List.mem_of_mem_take hz)))
      rw [List.length_take, Nat.min_eq_left (by omega)] at hnb
      have hp : 256 ^ m ≤ 256 ^ 8 := Nat.pow_le_pow_right (by omega) (by omega)
      have hnx : n256 (t.take m) < 18446744073709551616 := by omega
      have hsl := sh_le m hk8
      have htl := HTL.out
      clear hnb hp
      have hb : ¬ (m : Int) < (m : Int) := by omega
      generalize n256 (t.take m) = X at *
      by_cases h6 : 18446744073709551616 ≤ X + sh (m - 1)
      · have hE : r = (0, (i : Int), 4) := by rw [HRr.out, if_pos h6]
        subst hE
        have h6b : (18446744073709551615 : Int) - (sh (m - 1) : Int) < (X : Int) := by omega
        have HS := Lib.hid (fun W => begins_calls W m hk1 hk8)
        have h7 : IntKind.u64.wrap ((18446744073709551615 : Int) - (sh (m - 1) : Int)) = (18446744073709551615 : Int) - (sh (m - 1) : Int) := by rw [IntKind.wrap_u64]; omega
        clear h6 htl HRr h5
        generalize sh (m - 1) = S at *
        go_wp2_with fail
        refine (HS.out w).mono ?_
        rintro e w' ⟨rfl, rfl⟩
        go_wp2_with fail
        go_ret3
        exact ⟨rfl, rfl⟩
      · have hE : r = (((X + sh (m - 1) : Nat) : Int), (i : Int) + 1 + (m : Int), 0) := by rw [HRr.out, if_neg h6]
        have h6b : ¬ (18446744073709551615 : Int) - (sh (m - 1) : Int) < (X : Int) := by omega
        have HS := Lib.hid (fun W => begins_calls W m hk1 hk8)
        have h7 : IntKind.u64.wrap ((18446744073709551615 : Int) - (sh (m - 1) : Int)) = (18446744073709551615 : Int) - (sh (m - 1) : Int) := by rw [IntKind.wrap_u64]; omega
        have h8 : IntKind.u64.wrap ((sh (m - 1) : Int) + (X : Int)) = ((X + sh (m - 1) : Nat) : Int) := by rw [IntKind.wrap_u64]; omega
        have him : (i : Int) + 1 + (m : Int) ≤ (l.length : Int) := by omega
        obtain ⟨q, hq⟩ : ∃ q : Nat, X + sh (m - 1) = q := ⟨_, rfl⟩
        rw [hq] at h8 hE
        subst hE
        have H8 := Lib.hid h8
        have H7 := Lib.hid h7
        clear h6 htl HRr h5 hq h8
        generalize sh (m - 1) = S at *
        go_wp2_with fail
        refine (HS.out w).mono ?_
        rintro e w' ⟨rfl, rfl⟩
        go_wp2_with fail
        refine (HS.out w).mono ?_
        rintro e w' ⟨rfl, rfl⟩
        have h8 := H8.out
        go_wp2_with fail
        go_ret3
        exact ⟨rfl, rfl⟩
set_option maxRecDepth 100000 in
set_option maxHeartbeats 1000000 in
theorem getWhole_calls (w : World) (a : Option Addr) (n c : Nat) (l : List Int) (hl : l.length = n) (hc : n ≤ c) (hn : n ≤ 140737488355328) (hb : Byt l) (ra : Rd w a (bv l)) (at_ : Int) :
    Calls Try.prog 101 #[.slice a n c, .int .i64 at_] w (ReadIE (readI l at_) w) := by
  have hR := getNum_calls w a n c l hl hc hn hb ra at_
  have hB := readN_bnd l hb at_
  unfold readI
  generalize readN l at_ = r at *
  obtain ⟨x, nx, er⟩ := r
  have HR := Lib.hid hR
  obtain ⟨h0, h1⟩ := hB
  dsimp only at h0 h1 ⊢
  clear hR
  have e6 : x.tdiv 2 = x / 2 := Int.tdiv_eq_ediv_of_nonneg h0
  have e5 : x.tmod 2 = x % 2 := Int.tmod_eq_emod_of_nonneg h0
  have e7 : wrap64 (x / 2) = x / 2 := by unfold wrap64; omega
  have e8 : (0 : Int) ≤ x / 2 := by omega
  have e9 : x / 2 ≤ 9223372036854775807 := by omega
  by_cases hx : x % 2 = 1
  · have e1 : unz x = -1 - x / 2 := by unfold unz; rw [if_pos hx]
    have e4 : (x % 2 == 1) = true := by simpa using hx
    have H1 := Lib.hid e1
    clear e1 h0 h1
    go_enter Try.func101, Try.ntmps101
    go_wp2_with fail
    refine HR.out.mono ?_
    rintro e w' ⟨rfl, rfl⟩
    go_wp2_with fail
    go_ret3
    rw [H1.out]
    refine ⟨?_, rfl⟩
    rw [show (-1 : Int) - x / 2 = -(x / 2) - 1 by omega]
    rfl
  · have e1 : unz x = x / 2 := by unfold unz; rw [if_neg hx]
    have e4 : (x % 2 == 1) = false := by simpa using hx
    have H1 := Lib.hid e1
    clear e1 h0 h1
    go_enter Try.func101, Try.ntmps101
    go_wp2_with fail
    refine HR.out.mono ?_
    rintro e w' ⟨rfl, rfl⟩
    go_wp2_with fail
    go_ret3
    rw [H1.out]
    refine ⟨?_, rfl⟩
    rfl
end Go.Fur
namespace Go.Fur
open Go Go.RowKit Go.Proofs Go.Proofs.YtmdfipahbhbgjaaW.PrintWords
set_option linter.unusedVariables false
set_option linter.unusedSimpArgs false
/-- Bytes that are read: the place, the first error. -/
def rdc (a : Option Addr) (n c : Nat) (s : Int × Int) : List Value := [.slice a n c, .int .i64 s.1, .int .i64 s.2]
/-- What a step answers: the place and the error, and a value. -/
def RdE (a : Option Addr) (n c : Nat) (s : Int × Int) (x : Value) (w : World) (e : Ending) (w' : World) : Prop := e = .returned (.tuple #[.agg (rdc a n c s).toArray, x]) ∧ Fr [] w w'
theorem read_zero : ∀ w, (zeroValue 92).run Try.prog w = .ok (.agg (rdc none 0 0 (0, 0)).toArray) w := fun w => by kernel_rfl
theorem read_size (a : Option Addr) (n c : Nat) (s : Int × Int) : (Try.prog.info? 92).map (·.size) = some (rdc a n c s).length := by
  have h2 : (Try.prog.info? 92).map (·.size) = some 3 := by kernel_rfl
  exact h2
theorem rdc_one (a : Option Addr) (n c : Nat) (s : Int × Int) : ∀ v ∈ rdc a n c s, v.oneCell' = true := by simp [rdc, Value.oneCell']
set_option maxRecDepth 100000 in
set_option maxHeartbeats 2000000 in
theorem numR_calls {w : World} {a : Option Addr} {n c : Nat} {l : List Int} (hs : Src l a n c) (hr : Rd w a (bv l)) (s : Int × Int) :
    Calls Try.prog 80 #[.agg (rdc a n c s).toArray] w (RdE a n c (rI l s).2 (.int .i64 (rI l s).1) w) := by
  obtain ⟨at0, er0⟩ := s
  by_cases he : er0 = 0
  · subst he
    have e1 : rI l (at0, 0) = readI l at0 := by unfold rI; rw [if_pos rfl]
    rw [e1]
    clear e1
    have HC := Lib.hid (fun (W : World) (f : Fr [] w W) => getWhole_calls W a n c l hs.len hs.cap hs.small hs.byt (hr.fr0 f) at0)
    generalize readI l at0 = r at *
    obtain ⟨x, at1, er1⟩ := r
    clear hs hr
    go_enter Try.func80, Try.ntmps80
    go_wp2_with (first
      | (have z := HB1.out; clear z; refine wpList_allocZ rfl 92 rfl _ read_zero ?_; intro w2 B2 F2 S2; have hb1 := HB1.out.fr F2 (by simp); have c0 : w2.cell? ⟨w.heap.size, 0, none⟩ = some (.slice a n c) := hb1.cellAt rfl; have c1 : w2.cell? ⟨w.heap.size, 1, none⟩ = some (.int .i64 at0) := hb1.cellAt rfl; have c2 : w2.cell? ⟨w.heap.size, 2, none⟩ = some (.int .i64 0) := hb1.cellAt rfl; have HB2 := Lib.hid hb1; have HC2 := Lib.hid B2; have HF2 := Lib.hid (HF1.out.trans0 F2); have HS2 := Lib.hid S2; clear B2 F2 S2 hb1)
      | (refine wpList_boxB rfl 92 _ rfl (rdc a n c (at0, 0)) (by rfl) ?_; intro w1 B1 F1 S1; have HB1 := Lib.hid B1; have HF1 := Lib.hid F1; have HS1 := Lib.hid S1; clear B1 F1 S1))
    refine (HC.out w2 HF2.out).mono ?_
    rintro e w3 ⟨rfl, rfl⟩
    dsimp only
    clear c0 c1 c2
    go_wp2_with (first
      | (have z := HB4.out; clear z; refine wpList_loadB rfl 92 _ rfl w.heap.size (by rfl) 92 _ _ HB4.out Try.underlying92 rfl (read_size a n c (at1, er1)) ?_)
      | (have z := HB4.out; clear z; refine wpList_storeB rfl 92 _ _ rfl w1.heap.size 0 (rdc a n c (at1, er1)) (by rfl) (by rfl) 92 _ HC4.out (by show 0 + 3 ≤ 3; omega) (read_size a n c (at1, er1)) (rdc_one _ _ _ _) ?_; intro w5 B5 F5 S5; rw [splice_all _ _ (by rfl)] at B5; have HC5 := Lib.hid B5; have HF5 := Lib.hid (HF4.out.trans F5 (fun k hk hlt => by have := HS1.out; rw [List.mem_singleton.1 hk] at hlt; omega)); clear B5 F5 S5)
      | (have z := HB3.out; clear z; refine wpList_store1 rfl 38 _ _ rfl w.heap.size 2 (.int .i64 er1) (by rfl) (by rfl) rfl 92 _ HB3.out (by simp [rdc]) (by kernel_rfl) rfl ?_; intro w4 B4 F4 S4; have HB4 := Lib.hid (show Blk w4 w.heap.size 92 (rdc a n c (at1, er1)) from B4); have HC4 := Lib.hid (HC3.out.fr F4 (by have := HS1.out; simp; omega)); have HF4 := Lib.hid (HF3.out.trans F4 (fun k hk hlt => by rw [List.mem_singleton.1 hk] at hlt; omega)); clear B4 F4 S4)
      | (refine wpList_store1 rfl 3 _ _ rfl w.heap.size 1 (.int .i64 at1) (by rfl) (by rfl) rfl 92 _ HB2.out (by simp [rdc]) (by kernel_rfl) rfl ?_; intro w3 B3 F3 S3; have HB3 := Lib.hid (show Blk w3 w.heap.size 92 (rdc a n c (at1, 0)) from B3); have HC3 := Lib.hid (HC2.out.fr F3 (by have := HS1.out; simp; omega)); have HF3 := Lib.hid (HF2.out.trans F3 (fun k hk hlt => by rw [List.mem_singleton.1 hk] at hlt; omega)); clear B3 F3 S3))
    exact bodyPost_ret (results_cellB_tmp rfl _ _ w1.heap.size 92 _ _ (by rfl) HC5.out Try.underlying92 rfl (read_size a n c (at1, er1))) rfl ⟨rfl, HF5.out⟩
  · have e1 : rI l (at0, er0) = (0, at0, er0) := by unfold rI; rw [if_neg he]
    rw [e1]
    have hb : (er0 != 0) = true := by simpa using he
    clear e1 he hs hr
    go_enter Try.func80, Try.ntmps80
    go_wp2_with (first
      | (have z := HC2.out; clear z; refine wpList_loadB rfl 92 _ rfl w.heap.size (by rfl) 92 _ _ HB2.out Try.underlying92 rfl (read_size a n c (at0, er0)) ?_)
      | (have z := HC2.out; clear z; refine wpList_storeB rfl 92 _ _ rfl w1.heap.size 0 (rdc a n c (at0, er0)) (by rfl) (by rfl) 92 _ HC2.out (by show 0 + 3 ≤ 3; omega) (read_size a n c (at0, er0)) (rdc_one _ _ _ _) ?_; intro w5 B5 F5 S5; rw [splice_all _ _ (by rfl)] at B5; have HC5 := Lib.hid B5; have HF5 := Lib.hid (HF2.out.trans F5 (fun k hk hlt => by have := HS1.out; rw [List.mem_singleton.1 hk] at hlt; omega)); clear B5 F5 S5)
      | (have z := HB1.out; clear z; (refine wpList_allocZ rfl 92 rfl _ read_zero ?_; intro w2 B2 F2 S2; have hb1 := HB1.out.fr F2 (by simp); have c0 : w2.cell? ⟨w.heap.size, 0, none⟩ = some (.slice a n c) := hb1.cellAt rfl; have c1 : w2.cell? ⟨w.heap.size, 1, none⟩ = some (.int .i64 at0) := hb1.cellAt rfl; have c2 : w2.cell? ⟨w.heap.size, 2, none⟩ = some (.int .i64 er0) := hb1.cellAt rfl; have HB2 := Lib.hid hb1; have HC2 := Lib.hid B2; have HF2 := Lib.hid (HF1.out.trans0 F2); have HS2 := Lib.hid S2; clear B2 F2 S2 hb1))
      | (refine wpList_boxB rfl 92 _ rfl (rdc a n c (at0, er0)) (by rfl) ?_; intro w1 B1 F1 S1; have HB1 := Lib.hid B1; have HF1 := Lib.hid F1; have HS1 := Lib.hid S1; clear B1 F1 S1))
    exact bodyPost_ret (results_cellB_tmp rfl _ _ w1.heap.size 92 _ _ (by rfl) HC5.out Try.underlying92 rfl (read_size a n c (at0, er0))) rfl ⟨rfl, HF5.out⟩
set_option maxRecDepth 100000 in
set_option maxHeartbeats 2000000 in
theorem totalR_calls {w : World} {a : Option Addr} {n c : Nat} {l : List Int} (hs : Src l a n c) (hr : Rd w a (bv l)) (s : Int × Int)  :
    Calls Try.prog 59 #[.agg (rdc a n c s).toArray] w (RdE a n c (rU l 1024 3 s).2 (.int .i64 (rU l 1024 3 s).1) w) := by
  obtain ⟨at0, er0⟩ := s
  by_cases he : er0 = 0
  · subst he
    have HC := Lib.hid (fun (W : World) (f : Fr [] w W) => getNum_calls W a n c l hs.len hs.cap hs.small hs.byt (hr.fr0 f) at0)
    have hb := readN_bnd l hs.byt at0
    have hz := readN_err l at0
    have e1 : rU l 1024 3 (at0, 0) = if (readN l at0).2.2 = 0 ∧ 1024 < (readN l at0).1 then (0, at0, 3) else readN l at0 := by unfold rU; rw [if_pos rfl]
    rw [e1]
    clear e1
    generalize readN l at0 = r at *
    obtain ⟨x, at1, er1⟩ := r
    dsimp only at hb hz ⊢
    obtain ⟨hb0, hb1⟩ := hb
    clear hs hr
    by_cases hx : er1 = 0 ∧ 1024 < x
    · rw [if_pos hx]
      obtain ⟨rfl, hm⟩ := hx
      clear hz
      go_enter Try.func59, Try.ntmps59
      go_wp2_with (first
        | (have z := HB1.out; clear z; refine wpList_allocZ rfl 92 rfl _ read_zero ?_; intro w2 B2 F2 S2; have hb1 := HB1.out.fr F2 (by simp); have c0 : w2.cell? ⟨w.heap.size, 0, none⟩ = some (.slice a n c) := hb1.cellAt rfl; have c1 : w2.cell? ⟨w.heap.size, 1, none⟩ = some (.int .i64 at0) := hb1.cellAt rfl; have c2 : w2.cell? ⟨w.heap.size, 2, none⟩ = some (.int .i64 0) := hb1.cellAt rfl; have HB2 := Lib.hid hb1; have HC2 := Lib.hid B2; have HF2 := Lib.hid (HF1.out.trans0 F2); have HS2 := Lib.hid S2; clear B2 F2 S2 hb1)
        | (refine wpList_boxB rfl 92 _ rfl (rdc a n c (at0, 0)) (by rfl) ?_; intro w1 B1 F1 S1; have HB1 := Lib.hid B1; have HF1 := Lib.hid F1; have HS1 := Lib.hid S1; clear B1 F1 S1))
      refine (HC.out w2 HF2.out).mono ?_
      rintro e w3 ⟨rfl, rfl⟩
      dsimp only
      clear c0 c1 c2
      go_wp2_with (first
        | (have z := HB6.out; clear z; refine wpList_loadB rfl 92 _ rfl w.heap.size (by rfl) 92 _ _ HB6.out Try.underlying92 rfl (read_size a n c (at0, 3)) ?_)
        | (have z := HB6.out; clear z; refine wpList_storeB rfl 92 _ _ rfl w1.heap.size 0 (rdc a n c (at0, 3)) (by rfl) (by rfl) 92 _ HC6.out (by show 0 + 3 ≤ 3; omega) (read_size a n c (at0, 3)) (rdc_one _ _ _ _) ?_; intro w7 B7 F7 S7; rw [splice_all _ _ (by rfl)] at B7; have HC7 := Lib.hid B7; have HF7 := Lib.hid (HF6.out.trans F7 (fun k hk hlt => by have := HS1.out; rw [List.mem_singleton.1 hk] at hlt; omega)); clear B7 F7 S7)
        | (have z := HB5.out; clear z; refine wpList_store1 rfl 38 _ _ rfl w.heap.size 2 (.int .i64 3) (by rfl) (by rfl) rfl 92 _ HB5.out (by simp [rdc]) (by kernel_rfl) rfl ?_; intro w6 B6 F6 S6; have HB6 := Lib.hid (show Blk w6 w.heap.size 92 (rdc a n c (at0, 3)) from B6); have HC6 := Lib.hid (HC5.out.fr F6 (by have := HS1.out; simp; omega)); have HF6 := Lib.hid (HF5.out.trans F6 (fun k hk hlt => by rw [List.mem_singleton.1 hk] at hlt; omega)); clear B6 F6 S6)
        | (have z := HB4.out; clear z; refine wpList_store1 rfl 3 _ _ rfl w.heap.size 1 (.int .i64 at0) (by rfl) (by rfl) rfl 92 _ HB4.out (by simp [rdc]) (by kernel_rfl) rfl ?_; intro w5 B5 F5 S5; have HB5 := Lib.hid (show Blk w5 w.heap.size 92 (rdc a n c (at0, 0)) from B5); have HC5 := Lib.hid (HC4.out.fr F5 (by have := HS1.out; simp; omega)); have HF5 := Lib.hid (HF4.out.trans F5 (fun k hk hlt => by rw [List.mem_singleton.1 hk] at hlt; omega)); clear B5 F5 S5)
        | (have z := HB3.out; clear z; refine wpList_store1 rfl 38 _ _ rfl w.heap.size 2 (.int .i64 0) (by rfl) (by rfl) rfl 92 _ HB3.out (by simp [rdc]) (by kernel_rfl) rfl ?_; intro w4 B4 F4 S4; have HB4 := Lib.hid (show Blk w4 w.heap.size 92 (rdc a n c (at1, 0)) from B4); have HC4 := Lib.hid (HC3.out.fr F4 (by have := HS1.out; simp; omega)); have HF4 := Lib.hid (HF3.out.trans F4 (fun k hk hlt => by rw [List.mem_singleton.1 hk] at hlt; omega)); clear B4 F4 S4)
        | (refine wpList_store1 rfl 3 _ _ rfl w.heap.size 1 (.int .i64 at1) (by rfl) (by rfl) rfl 92 _ HB2.out (by simp [rdc]) (by kernel_rfl) rfl ?_; intro w3 B3 F3 S3; have HB3 := Lib.hid (show Blk w3 w.heap.size 92 (rdc a n c (at1, 0)) from B3); have HC3 := Lib.hid (HC2.out.fr F3 (by have := HS1.out; simp; omega)); have HF3 := Lib.hid (HF2.out.trans F3 (fun k hk hlt => by rw [List.mem_singleton.1 hk] at hlt; omega)); clear B3 F3 S3))
      exact bodyPost_ret (results_cellB_tmp rfl _ _ w1.heap.size 92 _ _ (by rfl) HC7.out Try.underlying92 rfl (read_size a n c (at0, 3))) rfl ⟨rfl, HF7.out⟩
    · rw [if_neg hx]
      have hbx : er1 = 0 → ¬ 1024 < x := fun h1 h2 => hx ⟨h1, h2⟩
      have hxm : x ≤ 9223372036854775807 := by
        by_cases h1 : er1 = 0
        · have := hbx h1; omega
        · have := hz h1; omega
      have hcv : wrap64 x = x := by unfold wrap64; omega
      have hcond : er1 = 0 ∨ (er1 == 0) = false := by
        by_cases h1 : er1 = 0
        · exact .inl h1
        · exact .inr (by simpa using h1)
      clear hx hz
      rcases hcond with rfl | hef
      · have hm := hbx rfl
        clear hbx
        go_enter Try.func59, Try.ntmps59
        go_wp2_with (first
          | (have z := HB1.out; clear z; refine wpList_allocZ rfl 92 rfl _ read_zero ?_; intro w2 B2 F2 S2; have hb1 := HB1.out.fr F2 (by simp); have c0 : w2.cell? ⟨w.heap.size, 0, none⟩ = some (.slice a n c) := hb1.cellAt rfl; have c1 : w2.cell? ⟨w.heap.size, 1, none⟩ = some (.int .i64 at0) := hb1.cellAt rfl; have c2 : w2.cell? ⟨w.heap.size, 2, none⟩ = some (.int .i64 0) := hb1.cellAt rfl; have HB2 := Lib.hid hb1; have HC2 := Lib.hid B2; have HF2 := Lib.hid (HF1.out.trans0 F2); have HS2 := Lib.hid S2; clear B2 F2 S2 hb1)
          | (refine wpList_boxB rfl 92 _ rfl (rdc a n c (at0, 0)) (by rfl) ?_; intro w1 B1 F1 S1; have HB1 := Lib.hid B1; have HF1 := Lib.hid F1; have HS1 := Lib.hid S1; clear B1 F1 S1))
        refine (HC.out w2 HF2.out).mono ?_
        rintro e w3 ⟨rfl, rfl⟩
        dsimp only
        clear c0 c1 c2
        go_wp2_with (first
          | (have z := HB4.out; clear z; refine wpList_loadB rfl 92 _ rfl w.heap.size (by rfl) 92 _ _ HB4.out Try.underlying92 rfl (read_size a n c (at1, 0)) ?_)
          | (have z := HB4.out; clear z; refine wpList_storeB rfl 92 _ _ rfl w1.heap.size 0 (rdc a n c (at1, 0)) (by rfl) (by rfl) 92 _ HC4.out (by show 0 + 3 ≤ 3; omega) (read_size a n c (at1, 0)) (rdc_one _ _ _ _) ?_; intro w5 B5 F5 S5; rw [splice_all _ _ (by rfl)] at B5; have HC5 := Lib.hid B5; have HF5 := Lib.hid (HF4.out.trans F5 (fun k hk hlt => by have := HS1.out; rw [List.mem_singleton.1 hk] at hlt; omega)); clear B5 F5 S5)
          | (have z := HB3.out; clear z; refine wpList_store1 rfl 38 _ _ rfl w.heap.size 2 (.int .i64 0) (by rfl) (by rfl) rfl 92 _ HB3.out (by simp [rdc]) (by kernel_rfl) rfl ?_; intro w4 B4 F4 S4; have HB4 := Lib.hid (show Blk w4 w.heap.size 92 (rdc a n c (at1, 0)) from B4); have HC4 := Lib.hid (HC3.out.fr F4 (by have := HS1.out; simp; omega)); have HF4 := Lib.hid (HF3.out.trans F4 (fun k hk hlt => by rw [List.mem_singleton.1 hk] at hlt; omega)); clear B4 F4 S4)
          | (refine wpList_store1 rfl 3 _ _ rfl w.heap.size 1 (.int .i64 at1) (by rfl) (by rfl) rfl 92 _ HB2.out (by simp [rdc]) (by kernel_rfl) rfl ?_; intro w3 B3 F3 S3; have HB3 := Lib.hid (show Blk w3 w.heap.size 92 (rdc a n c (at1, 0)) from B3); have HC3 := Lib.hid (HC2.out.fr F3 (by have := HS1.out; simp; omega)); have HF3 := Lib.hid (HF2.out.trans F3 (fun k hk hlt => by rw [List.mem_singleton.1 hk] at hlt; omega)); clear B3 F3 S3))
        exact bodyPost_ret (results_cellB_tmp rfl _ _ w1.heap.size 92 _ _ (by rfl) HC5.out Try.underlying92 rfl (read_size a n c (at1, 0))) rfl ⟨rfl, HF5.out⟩
      · clear hbx
        go_enter Try.func59, Try.ntmps59
        go_wp2_with (first
          | (have z := HB1.out; clear z; refine wpList_allocZ rfl 92 rfl _ read_zero ?_; intro w2 B2 F2 S2; have hb1 := HB1.out.fr F2 (by simp); have c0 : w2.cell? ⟨w.heap.size, 0, none⟩ = some (.slice a n c) := hb1.cellAt rfl; have c1 : w2.cell? ⟨w.heap.size, 1, none⟩ = some (.int .i64 at0) := hb1.cellAt rfl; have c2 : w2.cell? ⟨w.heap.size, 2, none⟩ = some (.int .i64 0) := hb1.cellAt rfl; have HB2 := Lib.hid hb1; have HC2 := Lib.hid B2; have HF2 := Lib.hid (HF1.out.trans0 F2); have HS2 := Lib.hid S2; clear B2 F2 S2 hb1)
          | (refine wpList_boxB rfl 92 _ rfl (rdc a n c (at0, 0)) (by rfl) ?_; intro w1 B1 F1 S1; have HB1 := Lib.hid B1; have HF1 := Lib.hid F1; have HS1 := Lib.hid S1; clear B1 F1 S1))
        refine (HC.out w2 HF2.out).mono ?_
        rintro e w3 ⟨rfl, rfl⟩
        dsimp only
        clear c0 c1 c2
        go_wp2_with (first
          | (have z := HB4.out; clear z; refine wpList_loadB rfl 92 _ rfl w.heap.size (by rfl) 92 _ _ HB4.out Try.underlying92 rfl (read_size a n c (at1, er1)) ?_)
          | (have z := HB4.out; clear z; refine wpList_storeB rfl 92 _ _ rfl w1.heap.size 0 (rdc a n c (at1, er1)) (by rfl) (by rfl) 92 _ HC4.out (by show 0 + 3 ≤ 3; omega) (read_size a n c (at1, er1)) (rdc_one _ _ _ _) ?_; intro w5 B5 F5 S5; rw [splice_all _ _ (by rfl)] at B5; have HC5 := Lib.hid B5; have HF5 := Lib.hid (HF4.out.trans F5 (fun k hk hlt => by have := HS1.out; rw [List.mem_singleton.1 hk] at hlt; omega)); clear B5 F5 S5)
          | (have z := HB3.out; clear z; refine wpList_store1 rfl 38 _ _ rfl w.heap.size 2 (.int .i64 er1) (by rfl) (by rfl) rfl 92 _ HB3.out (by simp [rdc]) (by kernel_rfl) rfl ?_; intro w4 B4 F4 S4; have HB4 := Lib.hid (show Blk w4 w.heap.size 92 (rdc a n c (at1, er1)) from B4); have HC4 := Lib.hid (HC3.out.fr F4 (by have := HS1.out; simp; omega)); have HF4 := Lib.hid (HF3.out.trans F4 (fun k hk hlt => by rw [List.mem_singleton.1 hk] at hlt; omega)); clear B4 F4 S4)
          | (refine wpList_store1 rfl 3 _ _ rfl w.heap.size 1 (.int .i64 at1) (by rfl) (by rfl) rfl 92 _ HB2.out (by simp [rdc]) (by kernel_rfl) rfl ?_; intro w3 B3 F3 S3; have HB3 := Lib.hid (show Blk w3 w.heap.size 92 (rdc a n c (at1, 0)) from B3); have HC3 := Lib.hid (HC2.out.fr F3 (by have := HS1.out; simp; omega)); have HF3 := Lib.hid (HF2.out.trans F3 (fun k hk hlt => by rw [List.mem_singleton.1 hk] at hlt; omega)); clear B3 F3 S3))
        exact bodyPost_ret (results_cellB_tmp rfl _ _ w1.heap.size 92 _ _ (by rfl) HC5.out Try.underlying92 rfl (read_size a n c (at1, er1))) rfl ⟨rfl, HF5.out⟩
  · have e1 : rU l 1024 3 (at0, er0) = (0, at0, er0) := by unfold rU; rw [if_neg he]
    rw [e1]
    have hb : (er0 != 0) = true := by simpa using he
    clear e1 he hs hr
    go_enter Try.func59, Try.ntmps59
    go_wp2_with (first
      | (have z := HC2.out; clear z; refine wpList_loadB rfl 92 _ rfl w.heap.size (by rfl) 92 _ _ HB2.out Try.underlying92 rfl (read_size a n c (at0, er0)) ?_)
      | (have z := HC2.out; clear z; refine wpList_storeB rfl 92 _ _ rfl w1.heap.size 0 (rdc a n c (at0, er0)) (by rfl) (by rfl) 92 _ HC2.out (by show 0 + 3 ≤ 3; omega) (read_size a n c (at0, er0)) (rdc_one _ _ _ _) ?_; intro w5 B5 F5 S5; rw [splice_all _ _ (by rfl)] at B5; have HC5 := Lib.hid B5; have HF5 := Lib.hid (HF2.out.trans F5 (fun k hk hlt => by have := HS1.out; rw [List.mem_singleton.1 hk] at hlt; omega)); clear B5 F5 S5)
      | (have z := HB1.out; clear z; (refine wpList_allocZ rfl 92 rfl _ read_zero ?_; intro w2 B2 F2 S2; have hb1 := HB1.out.fr F2 (by simp); have c0 : w2.cell? ⟨w.heap.size, 0, none⟩ = some (.slice a n c) := hb1.cellAt rfl; have c1 : w2.cell? ⟨w.heap.size, 1, none⟩ = some (.int .i64 at0) := hb1.cellAt rfl; have c2 : w2.cell? ⟨w.heap.size, 2, none⟩ = some (.int .i64 er0) := hb1.cellAt rfl; have HB2 := Lib.hid hb1; have HC2 := Lib.hid B2; have HF2 := Lib.hid (HF1.out.trans0 F2); have HS2 := Lib.hid S2; clear B2 F2 S2 hb1))
      | (refine wpList_boxB rfl 92 _ rfl (rdc a n c (at0, er0)) (by rfl) ?_; intro w1 B1 F1 S1; have HB1 := Lib.hid B1; have HF1 := Lib.hid F1; have HS1 := Lib.hid S1; clear B1 F1 S1))
    exact bodyPost_ret (results_cellB_tmp rfl _ _ w1.heap.size 92 _ _ (by rfl) HC5.out Try.underlying92 rfl (read_size a n c (at0, er0))) rfl ⟨rfl, HF5.out⟩
set_option maxRecDepth 100000 in
set_option maxHeartbeats 2000000 in
theorem uptoR_calls {w : World} {a : Option Addr} {n c : Nat} {l : List Int} (hs : Src l a n c) (hr : Rd w a (bv l)) (s : Int × Int) (most : Int) (hm0 : 0 ≤ most) (hm1 : most ≤ 9223372036854775807) :
    Calls Try.prog 46 #[.agg (rdc a n c s).toArray, .int .u64 most] w (RdE a n c (rU l most 4 s).2 (.int .i64 (rU l most 4 s).1) w) := by
  obtain ⟨at0, er0⟩ := s
  by_cases he : er0 = 0
  · subst he
    have HC := Lib.hid (fun (W : World) (f : Fr [] w W) => getNum_calls W a n c l hs.len hs.cap hs.small hs.byt (hr.fr0 f) at0)
    have hb := readN_bnd l hs.byt at0
    have hz := readN_err l at0
    have e1 : rU l most 4 (at0, 0) = if (readN l at0).2.2 = 0 ∧ most < (readN l at0).1 then (0, at0, 4) else readN l at0 := by unfold rU; rw [if_pos rfl]
    rw [e1]
    clear e1
    generalize readN l at0 = r at *
    obtain ⟨x, at1, er1⟩ := r
    dsimp only at hb hz ⊢
    obtain ⟨hb0, hb1⟩ := hb
    clear hs hr
    by_cases hx : er1 = 0 ∧ most < x
    · rw [if_pos hx]
      obtain ⟨rfl, hm⟩ := hx
      clear hz
      go_enter Try.func46, Try.ntmps46
      go_wp2_with (first
        | (have z := HB1.out; clear z; refine wpList_allocZ rfl 92 rfl _ read_zero ?_; intro w2 B2 F2 S2; have hb1 := HB1.out.fr F2 (by simp); have c0 : w2.cell? ⟨w.heap.size, 0, none⟩ = some (.slice a n c) := hb1.cellAt rfl; have c1 : w2.cell? ⟨w.heap.size, 1, none⟩ = some (.int .i64 at0) := hb1.cellAt rfl; have c2 : w2.cell? ⟨w.heap.size, 2, none⟩ = some (.int .i64 0) := hb1.cellAt rfl; have HB2 := Lib.hid hb1; have HC2 := Lib.hid B2; have HF2 := Lib.hid (HF1.out.trans0 F2); have HS2 := Lib.hid S2; clear B2 F2 S2 hb1)
        | (refine wpList_boxB rfl 92 _ rfl (rdc a n c (at0, 0)) (by rfl) ?_; intro w1 B1 F1 S1; have HB1 := Lib.hid B1; have HF1 := Lib.hid F1; have HS1 := Lib.hid S1; clear B1 F1 S1))
      refine (HC.out w2 HF2.out).mono ?_
      rintro e w3 ⟨rfl, rfl⟩
      dsimp only
      clear c0 c1 c2
      go_wp2_with (first
        | (have z := HB6.out; clear z; refine wpList_loadB rfl 92 _ rfl w.heap.size (by rfl) 92 _ _ HB6.out Try.underlying92 rfl (read_size a n c (at0, 4)) ?_)
        | (have z := HB6.out; clear z; refine wpList_storeB rfl 92 _ _ rfl w1.heap.size 0 (rdc a n c (at0, 4)) (by rfl) (by rfl) 92 _ HC6.out (by show 0 + 3 ≤ 3; omega) (read_size a n c (at0, 4)) (rdc_one _ _ _ _) ?_; intro w7 B7 F7 S7; rw [splice_all _ _ (by rfl)] at B7; have HC7 := Lib.hid B7; have HF7 := Lib.hid (HF6.out.trans F7 (fun k hk hlt => by have := HS1.out; rw [List.mem_singleton.1 hk] at hlt; omega)); clear B7 F7 S7)
        | (have z := HB5.out; clear z; refine wpList_store1 rfl 38 _ _ rfl w.heap.size 2 (.int .i64 4) (by rfl) (by rfl) rfl 92 _ HB5.out (by simp [rdc]) (by kernel_rfl) rfl ?_; intro w6 B6 F6 S6; have HB6 := Lib.hid (show Blk w6 w.heap.size 92 (rdc a n c (at0, 4)) from B6); have HC6 := Lib.hid (HC5.out.fr F6 (by have := HS1.out; simp; omega)); have HF6 := Lib.hid (HF5.out.trans F6 (fun k hk hlt => by rw [List.mem_singleton.1 hk] at hlt; omega)); clear B6 F6 S6)
        | (have z := HB4.out; clear z; refine wpList_store1 rfl 3 _ _ rfl w.heap.size 1 (.int .i64 at0) (by rfl) (by rfl) rfl 92 _ HB4.out (by simp [rdc]) (by kernel_rfl) rfl ?_; intro w5 B5 F5 S5; have HB5 := Lib.hid (show Blk w5 w.heap.size 92 (rdc a n c (at0, 0)) from B5); have HC5 := Lib.hid (HC4.out.fr F5 (by have := HS1.out; simp; omega)); have HF5 := Lib.hid (HF4.out.trans F5 (fun k hk hlt => by rw [List.mem_singleton.1 hk] at hlt; omega)); clear B5 F5 S5)
        | (have z := HB3.out; clear z; refine wpList_store1 rfl 38 _ _ rfl w.heap.size 2 (.int .i64 0) (by rfl) (by rfl) rfl 92 _ HB3.out (by simp [rdc]) (by kernel_rfl) rfl ?_; intro w4 B4 F4 S4; have HB4 := Lib.hid (show Blk w4 w.heap.size 92 (rdc a n c (at1, 0)) from B4); have HC4 := Lib.hid (HC3.out.fr F4 (by have := HS1.out; simp; omega)); have HF4 := Lib.hid (HF3.out.trans F4 (fun k hk hlt => by rw [List.mem_singleton.1 hk] at hlt; omega)); clear B4 F4 S4)
        | (refine wpList_store1 rfl 3 _ _ rfl w.heap.size 1 (.int .i64 at1) (by rfl) (by rfl) rfl 92 _ HB2.out (by simp [rdc]) (by kernel_rfl) rfl ?_; intro w3 B3 F3 S3; have HB3 := Lib.hid (show Blk w3 w.heap.size 92 (rdc a n c (at1, 0)) from B3); have HC3 := Lib.hid (HC2.out.fr F3 (by have := HS1.out; simp; omega)); have HF3 := Lib.hid (HF2.out.trans F3 (fun k hk hlt => by rw [List.mem_singleton.1 hk] at hlt; omega)); clear B3 F3 S3))
      exact bodyPost_ret (results_cellB_tmp rfl _ _ w1.heap.size 92 _ _ (by rfl) HC7.out Try.underlying92 rfl (read_size a n c (at0, 4))) rfl ⟨rfl, HF7.out⟩
    · rw [if_neg hx]
      have hbx : er1 = 0 → ¬ most < x := fun h1 h2 => hx ⟨h1, h2⟩
      have hxm : x ≤ 9223372036854775807 := by
        by_cases h1 : er1 = 0
        · have := hbx h1; omega
        · have := hz h1; omega
      have hcv : wrap64 x = x := by unfold wrap64; omega
      have hcond : er1 = 0 ∨ (er1 == 0) = false := by
        by_cases h1 : er1 = 0
        · exact .inl h1
        · exact .inr (by simpa using h1)
      clear hx hz
      rcases hcond with rfl | hef
      · have hm := hbx rfl
        clear hbx
        go_enter Try.func46, Try.ntmps46
        go_wp2_with (first
          | (have z := HB1.out; clear z; refine wpList_allocZ rfl 92 rfl _ read_zero ?_; intro w2 B2 F2 S2; have hb1 := HB1.out.fr F2 (by simp); have c0 : w2.cell? ⟨w.heap.size, 0, none⟩ = some (.slice a n c) := hb1.cellAt rfl; have c1 : w2.cell? ⟨w.heap.size, 1, none⟩ = some (.int .i64 at0) := hb1.cellAt rfl; have c2 : w2.cell? ⟨w.heap.size, 2, none⟩ = some (.int .i64 0) := hb1.cellAt rfl; have HB2 := Lib.hid hb1; have HC2 := Lib.hid B2; have HF2 := Lib.hid (HF1.out.trans0 F2); have HS2 := Lib.hid S2; clear B2 F2 S2 hb1)
          | (refine wpList_boxB rfl 92 _ rfl (rdc a n c (at0, 0)) (by rfl) ?_; intro w1 B1 F1 S1; have HB1 := Lib.hid B1; have HF1 := Lib.hid F1; have HS1 := Lib.hid S1; clear B1 F1 S1))
        refine (HC.out w2 HF2.out).mono ?_
        rintro e w3 ⟨rfl, rfl⟩
        dsimp only
        clear c0 c1 c2
        go_wp2_with (first
          | (have z := HB4.out; clear z; refine wpList_loadB rfl 92 _ rfl w.heap.size (by rfl) 92 _ _ HB4.out Try.underlying92 rfl (read_size a n c (at1, 0)) ?_)
          | (have z := HB4.out; clear z; refine wpList_storeB rfl 92 _ _ rfl w1.heap.size 0 (rdc a n c (at1, 0)) (by rfl) (by rfl) 92 _ HC4.out (by show 0 + 3 ≤ 3; omega) (read_size a n c (at1, 0)) (rdc_one _ _ _ _) ?_; intro w5 B5 F5 S5; rw [splice_all _ _ (by rfl)] at B5; have HC5 := Lib.hid B5; have HF5 := Lib.hid (HF4.out.trans F5 (fun k hk hlt => by have := HS1.out; rw [List.mem_singleton.1 hk] at hlt; omega)); clear B5 F5 S5)
          | (have z := HB3.out; clear z; refine wpList_store1 rfl 38 _ _ rfl w.heap.size 2 (.int .i64 0) (by rfl) (by rfl) rfl 92 _ HB3.out (by simp [rdc]) (by kernel_rfl) rfl ?_; intro w4 B4 F4 S4; have HB4 := Lib.hid (show Blk w4 w.heap.size 92 (rdc a n c (at1, 0)) from B4); have HC4 := Lib.hid (HC3.out.fr F4 (by have := HS1.out; simp; omega)); have HF4 := Lib.hid (HF3.out.trans F4 (fun k hk hlt => by rw [List.mem_singleton.1 hk] at hlt; omega)); clear B4 F4 S4)
          | (refine wpList_store1 rfl 3 _ _ rfl w.heap.size 1 (.int .i64 at1) (by rfl) (by rfl) rfl 92 _ HB2.out (by simp [rdc]) (by kernel_rfl) rfl ?_; intro w3 B3 F3 S3; have HB3 := Lib.hid (show Blk w3 w.heap.size 92 (rdc a n c (at1, 0)) from B3); have HC3 := Lib.hid (HC2.out.fr F3 (by have := HS1.out; simp; omega)); have HF3 := Lib.hid (HF2.out.trans F3 (fun k hk hlt => by rw [List.mem_singleton.1 hk] at hlt; omega)); clear B3 F3 S3))
        exact bodyPost_ret (results_cellB_tmp rfl _ _ w1.heap.size 92 _ _ (by rfl) HC5.out Try.underlying92 rfl (read_size a n c (at1, 0))) rfl ⟨rfl, HF5.out⟩
      · clear hbx
        go_enter Try.func46, Try.ntmps46
        go_wp2_with (first
          | (have z := HB1.out; clear z; refine wpList_allocZ rfl 92 rfl _ read_zero ?_; intro w2 B2 F2 S2; have hb1 := HB1.out.fr F2 (by simp); have c0 : w2.cell? ⟨w.heap.size, 0, none⟩ = some (.slice a n c) := hb1.cellAt rfl; have c1 : w2.cell? ⟨w.heap.size, 1, none⟩ = some (.int .i64 at0) := hb1.cellAt rfl; have c2 : w2.cell? ⟨w.heap.size, 2, none⟩ = some (.int .i64 0) := hb1.cellAt rfl; have HB2 := Lib.hid hb1; have HC2 := Lib.hid B2; have HF2 := Lib.hid (HF1.out.trans0 F2); have HS2 := Lib.hid S2; clear B2 F2 S2 hb1)
          | (refine wpList_boxB rfl 92 _ rfl (rdc a n c (at0, 0)) (by rfl) ?_; intro w1 B1 F1 S1; have HB1 := Lib.hid B1; have HF1 := Lib.hid F1; have HS1 := Lib.hid S1; clear B1 F1 S1))
        refine (HC.out w2 HF2.out).mono ?_
        rintro e w3 ⟨rfl, rfl⟩
        dsimp only
        clear c0 c1 c2
        go_wp2_with (first
          | (have z := HB4.out; clear z; refine wpList_loadB rfl 92 _ rfl w.heap.size (by rfl) 92 _ _ HB4.out Try.underlying92 rfl (read_size a n c (at1, er1)) ?_)
          | (have z := HB4.out; clear z; refine wpList_storeB rfl 92 _ _ rfl w1.heap.size 0 (rdc a n c (at1, er1)) (by rfl) (by rfl) 92 _ HC4.out (by show 0 + 3 ≤ 3; omega) (read_size a n c (at1, er1)) (rdc_one _ _ _ _) ?_; intro w5 B5 F5 S5; rw [splice_all _ _ (by rfl)] at B5; have HC5 := Lib.hid B5; have HF5 := Lib.hid (HF4.out.trans F5 (fun k hk hlt => by have := HS1.out; rw [List.mem_singleton.1 hk] at hlt; omega)); clear B5 F5 S5)
          | (have z := HB3.out; clear z; refine wpList_store1 rfl 38 _ _ rfl w.heap.size 2 (.int .i64 er1) (by rfl) (by rfl) rfl 92 _ HB3.out (by simp [rdc]) (by kernel_rfl) rfl ?_; intro w4 B4 F4 S4; have HB4 := Lib.hid (show Blk w4 w.heap.size 92 (rdc a n c (at1, er1)) from B4); have HC4 := Lib.hid (HC3.out.fr F4 (by have := HS1.out; simp; omega)); have HF4 := Lib.hid (HF3.out.trans F4 (fun k hk hlt => by rw [List.mem_singleton.1 hk] at hlt; omega)); clear B4 F4 S4)
          | (refine wpList_store1 rfl 3 _ _ rfl w.heap.size 1 (.int .i64 at1) (by rfl) (by rfl) rfl 92 _ HB2.out (by simp [rdc]) (by kernel_rfl) rfl ?_; intro w3 B3 F3 S3; have HB3 := Lib.hid (show Blk w3 w.heap.size 92 (rdc a n c (at1, 0)) from B3); have HC3 := Lib.hid (HC2.out.fr F3 (by have := HS1.out; simp; omega)); have HF3 := Lib.hid (HF2.out.trans F3 (fun k hk hlt => by rw [List.mem_singleton.1 hk] at hlt; omega)); clear B3 F3 S3))
        exact bodyPost_ret (results_cellB_tmp rfl _ _ w1.heap.size 92 _ _ (by rfl) HC5.out Try.underlying92 rfl (read_size a n c (at1, er1))) rfl ⟨rfl, HF5.out⟩
  · have e1 : rU l most 4 (at0, er0) = (0, at0, er0) := by unfold rU; rw [if_neg he]
    rw [e1]
    have hb : (er0 != 0) = true := by simpa using he
    clear e1 he hs hr
    go_enter Try.func46, Try.ntmps46
    go_wp2_with (first
      | (have z := HC2.out; clear z; refine wpList_loadB rfl 92 _ rfl w.heap.size (by rfl) 92 _ _ HB2.out Try.underlying92 rfl (read_size a n c (at0, er0)) ?_)
      | (have z := HC2.out; clear z; refine wpList_storeB rfl 92 _ _ rfl w1.heap.size 0 (rdc a n c (at0, er0)) (by rfl) (by rfl) 92 _ HC2.out (by show 0 + 3 ≤ 3; omega) (read_size a n c (at0, er0)) (rdc_one _ _ _ _) ?_; intro w5 B5 F5 S5; rw [splice_all _ _ (by rfl)] at B5; have HC5 := Lib.hid B5; have HF5 := Lib.hid (HF2.out.trans F5 (fun k hk hlt => by have := HS1.out; rw [List.mem_singleton.1 hk] at hlt; omega)); clear B5 F5 S5)
      | (have z := HB1.out; clear z; (refine wpList_allocZ rfl 92 rfl _ read_zero ?_; intro w2 B2 F2 S2; have hb1 := HB1.out.fr F2 (by simp); have c0 : w2.cell? ⟨w.heap.size, 0, none⟩ = some (.slice a n c) := hb1.cellAt rfl; have c1 : w2.cell? ⟨w.heap.size, 1, none⟩ = some (.int .i64 at0) := hb1.cellAt rfl; have c2 : w2.cell? ⟨w.heap.size, 2, none⟩ = some (.int .i64 er0) := hb1.cellAt rfl; have HB2 := Lib.hid hb1; have HC2 := Lib.hid B2; have HF2 := Lib.hid (HF1.out.trans0 F2); have HS2 := Lib.hid S2; clear B2 F2 S2 hb1))
      | (refine wpList_boxB rfl 92 _ rfl (rdc a n c (at0, er0)) (by rfl) ?_; intro w1 B1 F1 S1; have HB1 := Lib.hid B1; have HF1 := Lib.hid F1; have HS1 := Lib.hid S1; clear B1 F1 S1))
    exact bodyPost_ret (results_cellB_tmp rfl _ _ w1.heap.size 92 _ _ (by rfl) HC5.out Try.underlying92 rfl (read_size a n c (at0, er0))) rfl ⟨rfl, HF5.out⟩
/-- The next numbers. -/
def numsP (l : List Int) : Nat → Int × Int → List Int × Int × Int
  | 0, s => ([], s)
  | j + 1, s => ((numsP l j s).1 ++ [(rI l (numsP l j s).2).1], (rI l (numsP l j s).2).2)
theorem numsP_len (l : List Int) : ∀ (j : Nat) (s : Int × Int), (numsP l j s).1.length = j
  | 0, _ => rfl
  | j + 1, s => by simp [numsP, numsP_len l j s]
def NumsE (a : Option Addr) (n c : Nat) (r : List Int × Int × Int) (w : World) (e : Ending) (w' : World) : Prop := ∃ g, e = .returned (.tuple #[.agg (rdc a n c r.2).toArray, .slice (some ⟨g, 0, none⟩) r.1.length r.1.length]) ∧ w.heap.size ≤ g ∧ Blk w' g 2 (iv r.1) ∧ Fr [] w w'
def NumsR (w : World) (a : Option Addr) (n c : Nat) (l : List Int) (s : Int × Int) (k b1 b2 b3 : Nat) (i : Value) (wr : World) : Prop :=
  ∃ j : Nat, j ≤ k ∧ i = .int .i64 j ∧ Blk wr b1 92 (rdc a n c (numsP l j s).2) ∧ Blk wr b2 92 (rdc none 0 0 (0, 0)) ∧ Blk wr b3 2 (iv ((numsP l j s).1 ++ List.replicate (k - j) 0)) ∧ Fr [] w wr
theorem flat_zeros : ∀ k : Nat, flat id (List.replicate k [Value.int .i64 0]) = iv (List.replicate k 0)
  | 0 => rfl
  | k + 1 => by rw [List.replicate_succ, flat_cons, flat_zeros k, List.replicate_succ]; rfl
set_option maxRecDepth 100000 in
set_option maxHeartbeats 2000000 in
theorem numsR_calls {w : World} {a : Option Addr} {n c : Nat} {l : List Int} (hs : Src l a n c) (hr : Rd w a (bv l)) (s : Int × Int) (k : Nat) (hk : k ≤ 100) :
    Calls Try.prog 45 #[.agg (rdc a n c s).toArray, .int .i64 k] w (NumsE a n c (numsP l k s) w) := by
  have HC := Lib.hid (fun (W : World) (f : Fr [] w W) (s : Int × Int) => numR_calls (w := W) hs (hr.fr0 f) s)
  clear hs hr
  go_enter Try.func45, Try.ntmps45
  go_wp2_with (first
    | (have z := HB1.out; clear z; refine wpList_allocZ rfl 92 rfl _ read_zero ?_; intro w2 B2 F2 S2; have HB2 := Lib.hid (HB1.out.fr F2 (by simp)); have HC2 := Lib.hid B2; have HF2 := Lib.hid (HF1.out.trans0 F2); have HS2 := Lib.hid S2; clear B2 F2 S2)
    | (refine wpList_boxB rfl 92 _ rfl (rdc a n c s) (by rfl) ?_; intro w1 B1 F1 S1; have HB1 := Lib.hid B1; have HF1 := Lib.hid F1; have HS1 := Lib.hid S1; clear B1 F1 S1)
    | (refine wpList_makeZ rfl 81 _ _ rfl 2 [.int .i64 0] 1 8 Try.underlying81 (by kernel_rfl) (by omega) rfl k k (by rfl) (by rfl) (Nat.le_refl _) (by omega) (by simp only [maxLen]; omega) ?_; intro w3 B3 F3 S3; rw [flat_zeros] at B3; have HD3 := Lib.hid B3; have HB3 := Lib.hid (HB2.out.fr F3 (by simp)); have HC3 := Lib.hid (HC2.out.fr F3 (by simp)); have HF3 := Lib.hid (HF2.out.trans0 F3); have HS3 := Lib.hid S3; clear B3 F3 S3))
  have HR0 := Lib.hid (show NumsR w a n c l s k w.heap.size w1.heap.size w2.heap.size (.int .i64 (0 : Nat)) w3 from ⟨0, Nat.zero_le _, rfl, HB3.out, HC3.out, by simpa [numsP] using HD3.out, HF3.out⟩)
  have hb12 : w.heap.size < w1.heap.size ∧ w1.heap.size < w2.heap.size := by have := HS1.out; have := HS2.out; omega
  obtain ⟨hb1, hb2⟩ := hb12
  go_loopw [11] (fun i wr => NumsR w a n c l s k w.heap.size w1.heap.size w2.heap.size i wr) (fun i _ => k - (intOf i).toNat)
  case atStart => exact HR0.out
  case round =>
    obtain ⟨j, hj, rfl, hB, hC, hD, hF⟩ := hrel
    have hlen := numsP_len l j s
    by_cases hlt : j < k
    · have jb : (j : Int) < (k : Int) := by omega
      have j0 : (0 : Int) ≤ (j : Int) := by omega
      have HI := Lib.hid (And.intro hB (And.intro hC (And.intro hD hF)))
      have hn1 : numsP l (j + 1) s = ((numsP l j s).1 ++ [(rI l (numsP l j s).2).1], (rI l (numsP l j s).2).2) := rfl
      have HN := Lib.hid hn1
      have HK := Lib.hid (HC.out wr hF (numsP l j s).2)
      have HLn := Lib.hid hlen
      clear hB hC hD hF hn1 hlen HR0
      generalize numsP l j s = q at *
      obtain ⟨xs, sj⟩ := q
      dsimp only at HN HK HI HLn
      generalize rI l sj = r at *
      obtain ⟨x, s2⟩ := r
      go_wp2_with (refine wpList_loadB rfl 92 _ rfl w.heap.size (by rfl) 92 _ _ HI.out.1 Try.underlying92 rfl (read_size a n c sj) ?_)
      refine HK.out.mono ?_
      rintro e w4 ⟨rfl, f4⟩
      have HI4 := Lib.hid (And.intro (HI.out.1.fr f4 (by simp)) (And.intro (HI.out.2.1.fr f4 (by simp)) (And.intro (HI.out.2.2.1.fr f4 (by simp)) (HI.out.2.2.2.trans0 f4))))
      clear f4
      dsimp only
      go_wp2_with (first
        | (have z := HE5.out; clear z; refine wpList_store1 rfl 2 _ _ rfl w2.heap.size j (.int .i64 x) (by rfl) (by rfl) rfl 2 _ HE5.out (by simp [iv]; have := HLn.out; omega) (by kernel_rfl) rfl ?_; intro w6 B6 F6 S6; have HD6 := Lib.hid B6; have HB6 := Lib.hid (HB5.out.fr F6 (by simp; omega)); have HC6 := Lib.hid (HC5.out.fr F6 (by simp; omega)); have HF6 := Lib.hid (HF5.out.trans F6 (fun k hk hlt => by rw [List.mem_singleton.1 hk] at hlt; omega)); clear B6 F6 S6)
        | (refine wpList_storeB rfl 92 _ _ rfl w.heap.size 0 (rdc a n c s2) (by rfl) (by rfl) 92 _ HI4.out.1 (by show 0 + 3 ≤ 3; omega) (read_size a n c s2) (rdc_one _ _ _ _) ?_; intro w5 B5 F5 S5; rw [splice_all _ _ (by rfl)] at B5; have HB5 := Lib.hid B5; have HC5 := Lib.hid (HI4.out.2.1.fr F5 (by simp; omega)); have HE5 := Lib.hid (HI4.out.2.2.1.fr F5 (by simp; omega)); have HF5 := Lib.hid (HI4.out.2.2.2.trans F5 (fun k hk hlt => by rw [List.mem_singleton.1 hk] at hlt; omega)); clear B5 F5 S5))
      have hset : (iv (xs ++ List.replicate (k - j) 0)).set j (.int .i64 x) = iv (xs ++ [x] ++ List.replicate (k - (j + 1)) 0) := by
        have hk1 : k - j = (k - (j + 1)) + 1 := by omega
        have hxl : xs.length = j := HLn.out
        rw [hk1, List.replicate_succ]
        unfold iv
        rw [List.map_append, List.map_cons, List.set_append_right _ _ (by simp [hxl])]
        simp [hxl]
      have HR := Lib.hid (show NumsR w a n c l s k w.heap.size w1.heap.size w2.heap.size (.int .i64 ((j + 1 : Nat) : Int)) w6 from ⟨j + 1, by omega, rfl, by rw [HN.out]; exact HB6.out, HC6.out, by rw [HN.out, ← hset]; exact HD6.out, HF6.out⟩)
      clear hset
      go_roundw
      case rel => exact HR.out
      case measure => simp [intOf] <;> omega
    · have hjk : j = k := by omega
      subst hjk
      rw [Nat.sub_self, List.replicate_zero, List.append_nil] at hD
      have HI := Lib.hid (And.intro hB (And.intro hC (And.intro hD hF)))
      have HLn := Lib.hid hlen
      clear hB hC hD hF hlen
      generalize numsP l j s = q at *
      obtain ⟨xs, sj⟩ := q
      dsimp only at HI HLn
      go_wp2_with (first
        | (refine wpList_loadB rfl 92 _ rfl w.heap.size (by rfl) 92 _ _ HI.out.1 Try.underlying92 rfl (read_size a n c sj) ?_)
        | (refine wpList_storeB rfl 92 _ _ rfl w1.heap.size 0 (rdc a n c sj) (by rfl) (by rfl) 92 _ HI.out.2.1 (by show 0 + 3 ≤ 3; omega) (read_size a n c sj) (rdc_one _ _ _ _) ?_; intro w5 B5 F5 S5; rw [splice_all _ _ (by rfl)] at B5; have HB5 := Lib.hid B5; have HD5 := Lib.hid (HI.out.2.2.1.fr F5 (by simp; omega)); have HF5 := Lib.hid (HI.out.2.2.2.trans F5 (fun k hk hlt => by rw [List.mem_singleton.1 hk] at hlt; omega)); clear B5 F5 S5))
      refine bodyPost_ret (results_cellB_tmp rfl _ _ w1.heap.size 92 _ _ (by rfl) HB5.out Try.underlying92 rfl (read_size a n c sj)) rfl ⟨w2.heap.size, ?_, by omega, HD5.out, HF5.out⟩
      dsimp only
      rw [HLn.out]
      rfl
end Go.Fur
namespace Go.Fur
open Go Go.RowKit Go.Proofs Go.Proofs.YtmdfipahbhbgjaaW.PrintWords
set_option linter.unusedVariables false
set_option linter.unusedSimpArgs false
theorem Own.apart {w : World} {b : Nat} {e t : TypeId} {size n g : Nat} {v : Value} {cs xs : List Value} (h : Own w b e size v n xs) (hb : Blk w g t cs) (ht : e ≠ t) : g ∉ ob v := fun hm => Blk.ne_own hb h ht (mem_ob.1 hm)
/-- A list that is read: it is what is told where there is no error. -/
def ListE (a : Option Addr) (n c : Nat) (r : List Int × Int × Int) (w : World) (e : Ending) (w' : World) : Prop := ∃ v xs, e = .returned (.tuple #[.agg (rdc a n c r.2).toArray, v]) ∧ Own w' w.heap.size 3 1 v xs.length (iv xs) ∧ (r.2.2 = 0 → xs = r.1) ∧ Fr [] w w'
def ListR2 (w : World) (a : Option Addr) (n c : Nat) (l : List Int) (m : Nat) (sr : Int × Int) (b1 b2 : Nat) (v i : Value) (wr : World) : Prop :=
  ∃ (j : Nat) (sj : Int × Int) (xs : List Int), j ≤ m ∧ i = .int .i64 j ∧ xs.length = j ∧ Blk wr b1 92 (rdc a n c sj) ∧ Blk wr b2 92 (rdc none 0 0 (0, 0)) ∧ Own wr w.heap.size 3 1 v xs.length (iv xs) ∧ manyR (rI l) m sr = (xs ++ (manyR (rI l) (m - j) sj).1, (manyR (rI l) (m - j) sj).2) ∧ Fr [] w wr
set_option maxRecDepth 100000 in
set_option maxHeartbeats 2000000 in
theorem listR_calls {w : World} {a : Option Addr} {n c : Nat} {l : List Int} (hs : Src l a n c) (hr : Rd w a (bv l)) (s : Int × Int) :
    Calls Try.prog 53 #[.agg (rdc a n c s).toArray] w (ListE a n c (allR l (rI l) s) w) := by
  have HC := Lib.hid (fun (W : World) (f : Fr [] w W) (s : Int × Int) => numR_calls (w := W) hs (hr.fr0 f) s)
  have HT := Lib.hid (fun (W : World) (f : Fr [] w W) => totalR_calls (w := W) hs (hr.fr0 f) s)
  obtain ⟨m, hm, hr1⟩ := rU_1024 l hs.byt s
  unfold allR
  generalize rU l 1024 3 s = r at *
  obtain ⟨r1, sr⟩ := r
  dsimp only at hr1 HT ⊢
  subst hr1
  rw [Int.toNat_natCast]
  have hq : manyR (rI l) m sr = manyR (rI l) m sr := rfl
  generalize hQ : manyR (rI l) m sr = Q at hq ⊢
  have HQ := Lib.hid hQ
  clear hs hr hq hQ
  go_enter Try.func53, Try.ntmps53
  go_wp2_with (first
    | (have z := HC2.out; clear z; refine wpList_loadB rfl 92 _ rfl w.heap.size (by rfl) 92 _ _ HB2.out Try.underlying92 rfl (read_size a n c s) ?_)
    | (have z := HB1.out; clear z; refine wpList_allocZ rfl 92 rfl _ read_zero ?_; intro w2 B2 F2 S2; have HB2 := Lib.hid (HB1.out.fr F2 (by simp)); have HC2 := Lib.hid B2; have HF2 := Lib.hid (HF1.out.trans0 F2); have HS2 := Lib.hid S2; clear B2 F2 S2)
    | (refine wpList_boxB rfl 92 _ rfl (rdc a n c s) (by rfl) ?_; intro w1 B1 F1 S1; have HB1 := Lib.hid B1; have HF1 := Lib.hid F1; have HS1 := Lib.hid S1; clear B1 F1 S1))
  refine (HT.out w2 HF2.out).mono ?_
  rintro e w3 ⟨rfl, f3⟩
  have HB3 := Lib.hid (HB2.out.fr f3 (by simp))
  have HC3 := Lib.hid (HC2.out.fr f3 (by simp))
  have HF3 := Lib.hid (HF2.out.trans0 f3)
  clear f3
  dsimp only
  have hb12 : w.heap.size < w1.heap.size := by have := HS1.out; omega
  go_wp2_with (refine wpList_storeB rfl 92 _ _ rfl w.heap.size 0 (rdc a n c sr) (by rfl) (by rfl) 92 _ HB3.out (by show 0 + 3 ≤ 3; omega) (read_size a n c sr) (rdc_one _ _ _ _) ?_; intro w4 B4 F4 S4; rw [splice_all _ _ (by rfl)] at B4; have HB4 := Lib.hid B4; have HC4 := Lib.hid (HC3.out.fr F4 (by simp; omega)); have HF4 := Lib.hid (HF3.out.trans F4 (fun k hk hlt => by rw [List.mem_singleton.1 hk] at hlt; omega)); clear B4 F4 S4)
  have HR0 := Lib.hid (show ListR2 w a n c l m sr w.heap.size w1.heap.size (.slice none 0 0) (.int .i64 (0 : Nat)) w4 from ⟨0, sr, [], Nat.zero_le _, rfl, rfl, HB4.out, HC4.out, Own.nil _ _ _ _, by simp, HF4.out⟩)
  go_loopw [5, 13] (fun v i wr => ListR2 w a n c l m sr w.heap.size w1.heap.size v i wr) (fun _ i _ => m - (intOf i).toNat)
  case atStart => exact HR0.out
  case round =>
    obtain ⟨j, sj, xs, hj, rfl, hlen, hB, hC, hO, hM, hF⟩ := hrel
    by_cases hlt : j < m
    · have jb : (j : Int) < (m : Int) := by omega
      obtain ⟨d, hd⟩ : ∃ d, m - j = d + 1 := ⟨m - j - 1, by omega⟩
      rw [hd, manyR] at hM
      have HI := Lib.hid (And.intro hB (And.intro hC (And.intro hO hF)))
      have HK := Lib.hid (HC.out wr hF sj)
      have HLn := Lib.hid (And.intro hlen hd)
      generalize rI l sj = r at *
      obtain ⟨x, at2, er2⟩ := r
      have HM := Lib.hid hM
      clear hB hC hO hF hM hlen hd HR0
      go_wp2_with (refine wpList_loadB rfl 92 _ rfl w.heap.size (by rfl) 92 _ _ HI.out.1 Try.underlying92 rfl (read_size a n c sj) ?_)
      refine HK.out.mono ?_
      rintro e w5 ⟨rfl, f5⟩
      have HI5 := Lib.hid (And.intro (HI.out.1.fr f5 (by simp)) (And.intro (HI.out.2.1.fr f5 (by simp)) (And.intro (HI.out.2.2.1.fr0 f5) (HI.out.2.2.2.trans0 f5))))
      clear f5
      dsimp only
      by_cases he : er2 = 0
      · subst he
        have hbd : xs.length ≤ 1024 := by have := HLn.out.1; omega
        go_wp2_with (first
          | (have z := HE7.out; clear z; refine wpList_appB rfl _ _ 28 28 rfl w.heap.size 3 3 .i64 8 Try.underlying28 Try.underlying28 info_int _ xs.length (iv xs) (by rfl) HE7.out (some ⟨w6.heap.size, 0, none⟩) 1 1 [.int .i64 x] (by rfl) (HD7.out.rd0 1) rfl (by simp [Value.oneCell']) (by simp only [maxLen]; omega) (by omega) (by have := HF7.out.size; omega) ?_; intro v8 w8 O8 F8 K8 _; have HO8 := Lib.hid O8; have hgo : ∀ k ∈ ob _, w.heap.size ≤ k := (fun k hk => (HE7.out.lt hk).1); have HB8 := Lib.hid (HB7.out.fr F8 (HE7.out.apart HB7.out (by decide))); have HC8 := Lib.hid (HC7.out.fr F8 (HE7.out.apart HC7.out (by decide))); have HF8 := Lib.hid (HF7.out.trans F8 (fun k hk hlt => by have := (HE7.out.lt hk).1; omega)); clear O8 F8 K8 hgo)
          | (have z := HO6.out; clear z; refine wpList_buildSlice1 rfl 28 3 _ rfl [.int .i64 0] 1 8 Try.underlying28 (by kernel_rfl) (by simp) (by omega) (by omega) _ [.int .i64 x] (by rfl) (by rfl) (by simp) ?_; intro w7 B7 F7 S7; have HD7 := Lib.hid B7; have HB7 := Lib.hid (HB6.out.fr F7 (by simp)); have HC7 := Lib.hid (HC6.out.fr F7 (by simp)); have HE7 := Lib.hid (HO6.out.fr0 F7); have HF7 := Lib.hid (HF6.out.trans0 F7); clear B7 F7 S7)
          | (refine wpList_storeB rfl 92 _ _ rfl w.heap.size 0 (rdc a n c (at2, 0)) (by rfl) (by rfl) 92 _ HI5.out.1 (by show 0 + 3 ≤ 3; omega) (read_size a n c (at2, 0)) (rdc_one _ _ _ _) ?_; intro w6 B6 F6 S6; rw [splice_all _ _ (by rfl)] at B6; have c2 : w6.cell? ⟨w.heap.size, 2, none⟩ = some (.int .i64 0) := B6.cellAt rfl; have HB6 := Lib.hid B6; have HC6 := Lib.hid (HI5.out.2.1.fr F6 (by simp; omega)); have HO6 := Lib.hid (HI5.out.2.2.1.fr F6 (fun g hg hm => HI5.out.2.2.1.apart HI5.out.1 (by decide) (by rw [List.mem_singleton.1 hm] at hg; exact hg))); have HF6 := Lib.hid (HI5.out.2.2.2.trans F6 (fun k hk hlt => by rw [List.mem_singleton.1 hk] at hlt; omega)); clear B6 F6 S6))
        have HR := Lib.hid (show ListR2 w a n c l m sr w.heap.size w1.heap.size v8 (.int .i64 ((j + 1 : Nat) : Int)) w8 from ⟨j + 1, (at2, 0), xs ++ [x], by omega, rfl, by rw [List.length_append, HLn.out.1]; rfl, HB8.out, HC8.out, by rw [List.length_append]; simpa [iv] using HO8.out, by rw [HM.out, if_pos rfl, show m - (j + 1) = d by have := HLn.out.2; omega]; simp, HF8.out⟩)
        go_roundw
        case rel => exact HR.out
        case measure => simp [intOf] <;> omega
      · have hb : (er2 != 0) = true := by simpa using he
        have HNE := Lib.hid he
        clear he
        go_wp2_with (first
          | (have z := HB6.out; clear z; refine wpList_loadB rfl 92 _ rfl w.heap.size (by rfl) 92 _ _ HB6.out Try.underlying92 rfl (read_size a n c (at2, er2)) ?_)
          | (have z := HB6.out; clear z; refine wpList_storeB rfl 92 _ _ rfl w1.heap.size 0 (rdc a n c (at2, er2)) (by rfl) (by rfl) 92 _ HC6.out (by show 0 + 3 ≤ 3; omega) (read_size a n c (at2, er2)) (rdc_one _ _ _ _) ?_; intro w7 B7 F7 S7; rw [splice_all _ _ (by rfl)] at B7; have HB7 := Lib.hid B7; have HF7 := Lib.hid (HF6.out.trans F7 (fun k hk hlt => by rw [List.mem_singleton.1 hk] at hlt; omega)); clear B7 F7 S7)
          | (refine wpList_storeB rfl 92 _ _ rfl w.heap.size 0 (rdc a n c (at2, er2)) (by rfl) (by rfl) 92 _ HI5.out.1 (by show 0 + 3 ≤ 3; omega) (read_size a n c (at2, er2)) (rdc_one _ _ _ _) ?_; intro w6 B6 F6 S6; rw [splice_all _ _ (by rfl)] at B6; have c2 : w6.cell? ⟨w.heap.size, 2, none⟩ = some (.int .i64 er2) := B6.cellAt rfl; have HB6 := Lib.hid B6; have HC6 := Lib.hid (HI5.out.2.1.fr F6 (by simp; omega)); have HF6 := Lib.hid (HI5.out.2.2.2.trans F6 (fun k hk hlt => by rw [List.mem_singleton.1 hk] at hlt; omega)); clear B6 F6 S6))
        have hQ : Q = (xs, at2, er2) := by rw [← HQ.out, HM.out, if_neg HNE.out]; simp
        subst hQ
        exact bodyPost_ret (results_cellB_tmp rfl _ _ w1.heap.size 92 _ _ (by rfl) HB7.out Try.underlying92 rfl (read_size a n c (at2, er2))) rfl ⟨_, [], rfl, Own.nil _ _ _ _, fun h => absurd h HNE.out, HF7.out⟩
    · have hjk : j = m := by omega
      subst hjk
      rw [Nat.sub_self, manyR] at hM
      have hQ : Q = (xs, sj) := by rw [← HQ.out, hM]; simp
      have HI := Lib.hid (And.intro hB (And.intro hC (And.intro hO hF)))
      subst hQ
      clear hB hC hO hF hM
      go_wp2_with (first
        | (refine wpList_loadB rfl 92 _ rfl w.heap.size (by rfl) 92 _ _ HI.out.1 Try.underlying92 rfl (read_size a n c sj) ?_)
        | (refine wpList_storeB rfl 92 _ _ rfl w1.heap.size 0 (rdc a n c sj) (by rfl) (by rfl) 92 _ HI.out.2.1 (by show 0 + 3 ≤ 3; omega) (read_size a n c sj) (rdc_one _ _ _ _) ?_; intro w7 B7 F7 S7; rw [splice_all _ _ (by rfl)] at B7; have HB7 := Lib.hid B7; have HO7 := Lib.hid (HI.out.2.2.1.fr F7 (fun g hg hm => HI.out.2.2.1.apart HI.out.2.1 (by decide) (by rw [List.mem_singleton.1 hm] at hg; exact hg))); have HF7 := Lib.hid (HI.out.2.2.2.trans F7 (fun k hk hlt => by rw [List.mem_singleton.1 hk] at hlt; omega)); clear B7 F7 S7))
      refine bodyPost_ret (results_cellB_tmp rfl _ _ w1.heap.size 92 _ _ (by rfl) HB7.out Try.underlying92 rfl (read_size a n c sj)) rfl ⟨_, xs, rfl, ?_, fun _ => rfl, HF7.out⟩
      exact HO7.out
end Go.Fur
namespace Go.Fur
open Go Go.RowKit Go.Proofs Go.Proofs.YtmdfipahbhbgjaaW.PrintWords
set_option linter.unusedVariables false
set_option linter.unusedSimpArgs false
section
variable {P : Program}
theorem results_cellB_cellB {fn : Func} {p q : Tmp} {ty ty2 : TypeId} (h : fn.results = #[.cell p ty, .cell q ty2]) (tmps : Array Value) (w : World) (g g2 : Nat) (t t2 : TypeId) (cs cs2 : List Value) (d d2 : TypeDesc)
    (hp : tmps.getD p undef = .pointer (some ⟨g, 0, none⟩)) (hg : Blk w g t cs) (hu : P.underlying ty = some d) (hd : (match d with | .struct _ | .array _ _ => true | _ => false) = true) (hi : (P.info? ty).map (·.size) = some cs.length)
    (hq : tmps.getD q undef = .pointer (some ⟨g2, 0, none⟩)) (hg2 : Blk w g2 t2 cs2) (hu2 : P.underlying ty2 = some d2) (hd2 : (match d2 with | .struct _ | .array _ _ => true | _ => false) = true) (hi2 : (P.info? ty2).map (·.size) = some cs2.length) :
    (results fn tmps).run P w = .ok (.tuple #[.agg cs.toArray, .agg cs2.toArray]) w := by
  have hp' : tmps[p]?.getD undef = .pointer (some ⟨g, 0, none⟩) := by simpa using hp
  have hq' : tmps[q]?.getD undef = .pointer (some ⟨g2, 0, none⟩) := by simpa using hq
  simp [results, h, hp', hq', asAddr, run_loadVar_row w g t ty cs.toArray (0, 0) d hg hu hd (by simpa using hi), run_loadVar_row w g2 t2 ty2 cs2.toArray (0, 0) d2 hg2 hu2 hd2 (by simpa using hi2)]
end
theorem nums_rQ (l : List Int) (s : Int × Int) : numsP l 7 s = ((rQ l s).1.ints, (rQ l s).2) := rfl
theorem nums_rN (l : List Int) (s : Int × Int) : numsP l 5 s = ((rN l s).1.ints, (rN l s).2) := rfl
theorem q_build (x1 x2 x3 x4 y4 x5 y5 : Int) (w : World) : (Instr.build 25 [(0, .int .i64 x1), (1, .int .i64 x2), (2, .int .i64 x3), (3, .agg #[.int .i64 x4, .int .i64 y4]), (4, .agg #[.int .i64 x5, .int .i64 y5])].toArray).run Try.prog w = .ok (.agg [.int .i64 x1, .int .i64 x2, .int .i64 x3, .int .i64 x4, .int .i64 y4, .int .i64 x5, .int .i64 y5].toArray) w := by kernel_rfl
theorem v_build (x1 x2 : Int) (w : World) : (Instr.build 23 [(0, .int .i64 x1), (1, .int .i64 x2)].toArray).run Try.prog w = .ok (.agg #[.int .i64 x1, .int .i64 x2]) w := by kernel_rfl
theorem nums_5 (l : List Int) (s : Int × Int) : numsP l 5 s = ([(rI l s).1, (rI l (rI l s).2).1, (rI l (rI l (rI l s).2).2).1, (rI l (rI l (rI l (rI l s).2).2).2).1, (rI l (rI l (rI l (rI l (rI l s).2).2).2).2).1], (rI l (rI l (rI l (rI l (rI l s).2).2).2).2).2) := rfl
theorem nums_3 (l : List Int) (s : Int × Int) : numsP l 3 s = ([(rI l s).1, (rI l (rI l s).2).1, (rI l (rI l (rI l s).2).2).1], (rI l (rI l (rI l s).2).2).2) := rfl
theorem rI_keep (l : List Int) (s : Int × Int) (h : (rI l s).2.2 = 0) : s.2 = 0 := by
  unfold rI at h
  by_cases he : s.2 = 0
  · exact he
  · rw [if_neg he] at h; exact h
theorem rU_keep (l : List Int) (most bad : Int) (s : Int × Int) (h : (rU l most bad s).2.2 = 0) : s.2 = 0 := by
  unfold rU at h
  by_cases he : s.2 = 0
  · exact he
  · rw [if_neg he] at h; exact h
/-- A task, a lease that is read. -/
def RdT (a : Option Addr) (n c : Nat) (r : Tas × Int × Int) (w : World) (e : Ending) (w' : World) : Prop := ∃ (t : Tas) (a5 : Option Addr) (c5 : Nat), e = .returned (.tuple #[.agg (rdc a n c r.2).toArray, .agg (t.cells a5 c5).toArray]) ∧ Own w' w.heap.size 3 1 (.slice a5 t.tickets.length c5) t.tickets.length (iv t.tickets) ∧ (r.2.2 = 0 → t = r.1) ∧ Fr [] w w'
def RdL (a : Option Addr) (n c : Nat) (r : Lea × Int × Int) (w : World) (e : Ending) (w' : World) : Prop := ∃ (t : Lea) (a5 : Option Addr) (c5 : Nat), e = .returned (.tuple #[.agg (rdc a n c r.2).toArray, .agg (t.cells a5 c5).toArray]) ∧ Own w' w.heap.size 3 1 (.slice a5 t.cores.length c5) t.cores.length (iv t.cores) ∧ (r.2.2 = 0 → t = r.1) ∧ Fr [] w w'
theorem lease_zero9 : ∀ w, (zeroValue 124).run Try.prog w = .ok (.agg ([.int .i64 0, .int .i64 0, .int .i64 0, .slice none 0 0, .int .i64 0, .int .i64 0, .int .i64 0, .bool false] : List Value).toArray) w := fun w => by kernel_rfl
--@
set_option maxRecDepth 100000 in
set_option maxHeartbeats 4000000 in
theorem aQueueR_calls {w : World} {a : Option Addr} {n c : Nat} {l : List Int} (hs : Src l a n c) (hr : Rd w a (bv l)) (s : Int × Int) :
    Calls Try.prog 47 #[.agg (rdc a n c s).toArray] w (RdE a n c (rQ l s).2 (.agg (rQ l s).1.cells.toArray) w) := by
  have HK0 := Lib.hid (fun (W : World) (f : Fr [] w W) => numsR_calls (w := W) hs (hr.fr0 f) s 7 (by decide))
  rw [nums_rQ] at HK0
  generalize rQ l s = r at *
  obtain ⟨⟨x1, x2, x3, x4, x5, x6, x7⟩, s0⟩ := r
  clear hs hr
  go_enter Try.func47, Try.ntmps47
  go_wp2_with (first
    | (have z := HD3.out; clear z; refine wpList_loadB rfl 92 _ rfl w.heap.size (by rfl) 92 _ _ HB3.out Try.underlying92 rfl (read_size a n c s) ?_)
    | (have z := HC2.out; clear z; refine wpList_allocZ rfl 25 rfl _ rqueue_zero ?_; intro w3 B3 F3 S3; have HB3 := Lib.hid (HB2.out.fr F3 (by simp)); have HC3 := Lib.hid (HC2.out.fr F3 (by simp)); have HD3 := Lib.hid B3; have HF3 := Lib.hid (HF2.out.trans0 F3); have HS3 := Lib.hid S3; clear B3 F3 S3)
    | (have z := HB1.out; clear z; refine wpList_allocZ rfl 92 rfl _ read_zero ?_; intro w2 B2 F2 S2; have HB2 := Lib.hid (HB1.out.fr F2 (by simp)); have HC2 := Lib.hid B2; have HF2 := Lib.hid (HF1.out.trans0 F2); have HS2 := Lib.hid S2; clear B2 F2 S2)
    | (refine wpList_boxB rfl 92 _ rfl (rdc a n c s) (by rfl) ?_; intro w1 B1 F1 S1; have HB1 := Lib.hid B1; have HF1 := Lib.hid F1; have HS1 := Lib.hid S1; clear B1 F1 S1))
  have hb1 : w.heap.size < w1.heap.size ∧ w1.heap.size < w2.heap.size ∧ w2.heap.size < w3.heap.size := by have := HS1.out; have := HS2.out; have := HS3.out; omega
  obtain ⟨hb1, hb2, hb3⟩ := hb1
  refine (HK0.out w3 HF3.out).mono ?_
  rintro e w4 ⟨g0, rfl, hg0, G, f4⟩
  have HG0_4 := Lib.hid G
  have hg0 := Nat.lt_of_lt_of_le hb3 hg0
  clear G
  have HB4 := Lib.hid (HB3.out.fr f4 (by simp))
  have HC_4 := Lib.hid (HC3.out.fr f4 (by simp))
  have HD4 := Lib.hid (HD3.out.fr f4 (by simp))
  have HF4 := Lib.hid (HF3.out.trans0 f4)
  have HZ4 : w3.heap.size ≤ w4.heap.size := by have := HF4.out.size; have := HF3.out.size; first | exact f4.size | omega
  clear f4
  dsimp only
  go_wp2_with (refine wpList_storeB rfl 92 _ _ rfl w.heap.size 0 (rdc a n c s0) (by rfl) (by rfl) 92 _ HB4.out (by show 0 + 3 ≤ 3; omega) (read_size a n c s0) (rdc_one _ _ _ _) ?_; intro w5 B F S; rw [splice_all _ _ (by rfl)] at B; have HB5 := Lib.hid B; have HC_5 := Lib.hid (HC_4.out.fr F (by simp; omega)); have HD5 := Lib.hid (HD4.out.fr F (by simp; omega)); have HF5 := Lib.hid (HF4.out.trans F (fun k hk hlt => by rw [List.mem_singleton.1 hk] at hlt; omega)); have HZ5 : w3.heap.size ≤ w5.heap.size := Nat.le_trans HZ4 F.size; have HG0_5 := Lib.hid (HG0_4.out.fr F (by simp; omega)); clear B F S)
  refine wp_region_ord (Fr [w1.heap.size, w2.heap.size] w5) [0, 1, 2, 3, 4, 5, 6, 7, 8, 9, 10, 11, 12, 13, 14, 15, 16, 17, 18, 19, 20, 21, 22, 23, 24, 25, 26] [] [25, 26] [0, 3, 6, 9, 12, 15, 19, 22] mixed (by kernel_rfl) ?_
  have hS : Fr [w1.heap.size, w2.heap.size] w5 w5.drew := (Fr.refl _ _).drew
  have hwn : w.heap.size ∉ [w1.heap.size, w2.heap.size] := by simp; omega
  have hsz5 : w5.drew.heap.size = w5.heap.size := rfl
  have hgn0 : g0 ∉ [w1.heap.size, w2.heap.size] := by simp; omega
  have d0 : ∀ W, Fr [w1.heap.size, w2.heap.size] w5 W → W.cell? ⟨g0, 0, none⟩ = some (.int .i64 x1) := fun W f => (HG0_5.out.fr f hgn0).cellAt rfl
  have d1 : ∀ W, Fr [w1.heap.size, w2.heap.size] w5 W → W.cell? ⟨g0, 1, none⟩ = some (.int .i64 x2) := fun W f => (HG0_5.out.fr f hgn0).cellAt rfl
  have d2 : ∀ W, Fr [w1.heap.size, w2.heap.size] w5 W → W.cell? ⟨g0, 2, none⟩ = some (.int .i64 x3) := fun W f => (HG0_5.out.fr f hgn0).cellAt rfl
  have d3 : ∀ W, Fr [w1.heap.size, w2.heap.size] w5 W → W.cell? ⟨g0, 3, none⟩ = some (.int .i64 x4) := fun W f => (HG0_5.out.fr f hgn0).cellAt rfl
  have d4 : ∀ W, Fr [w1.heap.size, w2.heap.size] w5 W → W.cell? ⟨g0, 4, none⟩ = some (.int .i64 x5) := fun W f => (HG0_5.out.fr f hgn0).cellAt rfl
  have d5 : ∀ W, Fr [w1.heap.size, w2.heap.size] w5 W → W.cell? ⟨g0, 5, none⟩ = some (.int .i64 x6) := fun W f => (HG0_5.out.fr f hgn0).cellAt rfl
  have d6 : ∀ W, Fr [w1.heap.size, w2.heap.size] w5 W → W.cell? ⟨g0, 6, none⟩ = some (.int .i64 x7) := fun W f => (HG0_5.out.fr f hgn0).cellAt rfl
  simp only [pairs, pickN]
  refine wpO_take (.agg (rdc a n c s0).toArray) hS (by rfl) (by rfl) (fun w' hw' => run_loadB 92 _ rfl w.heap.size (by rfl) 92 _ _ (HB5.out.fr hw' hwn) Try.underlying92 rfl (read_size a n c s0)) ?_
  simp only [Act.put, List.setIfInBounds_toArray, List.set_cons_zero, List.set_cons_succ]
  repeat (first | (refine wpO_free ?_ (by rfl) (by rfl) (fun w' => ?_) ?_; rotate_left; (go_simp; rfl); simp only [Act.put, List.setIfInBounds_toArray, List.set_cons_zero, List.set_cons_succ]) | (refine wpO_take ?_ hS (by rfl) (by rfl) (fun w' hw' => ?_) ?_; rotate_left; (go_simp; rfl); simp only [Act.put, List.setIfInBounds_toArray, List.set_cons_zero, List.set_cons_succ]) | (refine wpO_pass (by rfl) ?_; simp only [Act.put, List.setIfInBounds_toArray, List.set_cons_zero, List.set_cons_succ]))
  refine wpO_eff (by rfl) ?_
  refine wpList_storeB rfl 92 _ _ rfl w1.heap.size 0 (rdc a n c s0) (by rfl) (by rfl) 92 _ (Blk.drew HC_5.out) (by show 0 + 3 ≤ 3; omega) (read_size a n c s0) (rdc_one _ _ _ _) ?_
  intro wa Ba Fa Sa
  rw [splice_all _ _ (by rfl)] at Ba
  have Sa1 : Fr [w1.heap.size, w2.heap.size] w5 wa := hS.trans Fa (fun k hk _ => by rw [List.mem_singleton.1 hk]; simp)
  refine effQ_keep Sa1 ?_
  simp only [Act.put, List.setIfInBounds_toArray, List.set_cons_zero, List.set_cons_succ]
  refine wpO_eff (by rfl) ?_
  refine wpList_storeB rfl 25 _ _ rfl w2.heap.size 0 (([.int .i64 x1, .int .i64 x2, .int .i64 x3, .int .i64 x4, .int .i64 x5, .int .i64 x6, .int .i64 x7] : List Value)) (by rfl) (by rfl) 25 _ ((Blk.drew HD5.out).fr Fa (by simp; omega)) (by show 0 + 7 ≤ 7; omega) (by kernel_rfl) (by simp [Value.oneCell']) ?_
  intro wb Bb Fb Sb
  rw [splice_all _ _ (by rfl)] at Bb
  have Sb1 : Fr [w1.heap.size, w2.heap.size] w5 wb := Sa1.trans Fb (fun k hk _ => by rw [List.mem_singleton.1 hk]; simp)
  have Ba1 := Ba.fr Fb (by simp; omega)
  refine effQ_keep Sb1 ?_
  simp only [Act.put, List.setIfInBounds_toArray, List.set_cons_zero, List.set_cons_succ]
  refine wpO_nil ?_
  have HBa := Lib.hid Ba1
  have HBb := Lib.hid Bb
  have HSb := Lib.hid Sb1
  have FF : Fr [] w wb := HF5.out.trans Sb1 (fun k hk hlt => by simp at hk; omega)
  clear hS d0 d1 d2 d3 d4 d5 d6 Ba Ba1 Bb Fa Fb Sa Sb Sa1 Sb1
  go_wp2_with fail
  refine bodyPost_ret (results_cellB_cellB rfl _ _ w1.heap.size w2.heap.size 92 25 _ _ _ _ (by rfl) HBa.out Try.underlying92 rfl (read_size a n c s0) (by rfl) HBb.out Try.underlying25 rfl (by kernel_rfl)) rfl ⟨rfl, FF⟩
set_option maxRecDepth 100000 in
set_option maxHeartbeats 4000000 in
theorem aNodeR_calls {w : World} {a : Option Addr} {n c : Nat} {l : List Int} (hs : Src l a n c) (hr : Rd w a (bv l)) (s : Int × Int) :
    Calls Try.prog 48 #[.agg (rdc a n c s).toArray] w (RdE a n c (rN l s).2 (.agg (rN l s).1.cells.toArray) w) := by
  have HK0 := Lib.hid (fun (W : World) (f : Fr [] w W) => numsR_calls (w := W) hs (hr.fr0 f) s 5 (by decide))
  rw [nums_rN] at HK0
  generalize rN l s = r at *
  obtain ⟨⟨x1, x2, x3, x4, x5⟩, s0⟩ := r
  clear hs hr
  go_enter Try.func48, Try.ntmps48
  go_wp2_with (first
    | (have z := HD3.out; clear z; refine wpList_loadB rfl 92 _ rfl w.heap.size (by rfl) 92 _ _ HB3.out Try.underlying92 rfl (read_size a n c s) ?_)
    | (have z := HC2.out; clear z; refine wpList_allocZ rfl 27 rfl _ rnode_zero ?_; intro w3 B3 F3 S3; have HB3 := Lib.hid (HB2.out.fr F3 (by simp)); have HC3 := Lib.hid (HC2.out.fr F3 (by simp)); have HD3 := Lib.hid B3; have HF3 := Lib.hid (HF2.out.trans0 F3); have HS3 := Lib.hid S3; clear B3 F3 S3)
    | (have z := HB1.out; clear z; refine wpList_allocZ rfl 92 rfl _ read_zero ?_; intro w2 B2 F2 S2; have HB2 := Lib.hid (HB1.out.fr F2 (by simp)); have HC2 := Lib.hid B2; have HF2 := Lib.hid (HF1.out.trans0 F2); have HS2 := Lib.hid S2; clear B2 F2 S2)
    | (refine wpList_boxB rfl 92 _ rfl (rdc a n c s) (by rfl) ?_; intro w1 B1 F1 S1; have HB1 := Lib.hid B1; have HF1 := Lib.hid F1; have HS1 := Lib.hid S1; clear B1 F1 S1))
  have hb1 : w.heap.size < w1.heap.size ∧ w1.heap.size < w2.heap.size ∧ w2.heap.size < w3.heap.size := by have := HS1.out; have := HS2.out; have := HS3.out; omega
  obtain ⟨hb1, hb2, hb3⟩ := hb1
  refine (HK0.out w3 HF3.out).mono ?_
  rintro e w4 ⟨g0, rfl, hg0, G, f4⟩
  have HG0_4 := Lib.hid G
  have hg0 := Nat.lt_of_lt_of_le hb3 hg0
  clear G
  have HB4 := Lib.hid (HB3.out.fr f4 (by simp))
  have HC_4 := Lib.hid (HC3.out.fr f4 (by simp))
  have HD4 := Lib.hid (HD3.out.fr f4 (by simp))
  have HF4 := Lib.hid (HF3.out.trans0 f4)
  have HZ4 : w3.heap.size ≤ w4.heap.size := by have := HF4.out.size; have := HF3.out.size; first | exact f4.size | omega
  clear f4
  dsimp only
  go_wp2_with (refine wpList_storeB rfl 92 _ _ rfl w.heap.size 0 (rdc a n c s0) (by rfl) (by rfl) 92 _ HB4.out (by show 0 + 3 ≤ 3; omega) (read_size a n c s0) (rdc_one _ _ _ _) ?_; intro w5 B F S; rw [splice_all _ _ (by rfl)] at B; have HB5 := Lib.hid B; have HC_5 := Lib.hid (HC_4.out.fr F (by simp; omega)); have HD5 := Lib.hid (HD4.out.fr F (by simp; omega)); have HF5 := Lib.hid (HF4.out.trans F (fun k hk hlt => by rw [List.mem_singleton.1 hk] at hlt; omega)); have HZ5 : w3.heap.size ≤ w5.heap.size := Nat.le_trans HZ4 F.size; have HG0_5 := Lib.hid (HG0_4.out.fr F (by simp; omega)); clear B F S)
  refine wp_region_ord (Fr [w1.heap.size, w2.heap.size] w5) [0, 1, 2, 3, 4, 5, 6, 7, 8, 9, 10, 11, 12, 13, 14, 15, 16, 17, 18] [] [17, 18] [0, 3, 6, 9, 12, 15] mixed (by kernel_rfl) ?_
  have hS : Fr [w1.heap.size, w2.heap.size] w5 w5.drew := (Fr.refl _ _).drew
  have hwn : w.heap.size ∉ [w1.heap.size, w2.heap.size] := by simp; omega
  have hsz5 : w5.drew.heap.size = w5.heap.size := rfl
  have hgn0 : g0 ∉ [w1.heap.size, w2.heap.size] := by simp; omega
  have d0 : ∀ W, Fr [w1.heap.size, w2.heap.size] w5 W → W.cell? ⟨g0, 0, none⟩ = some (.int .i64 x1) := fun W f => (HG0_5.out.fr f hgn0).cellAt rfl
  have d1 : ∀ W, Fr [w1.heap.size, w2.heap.size] w5 W → W.cell? ⟨g0, 1, none⟩ = some (.int .i64 x2) := fun W f => (HG0_5.out.fr f hgn0).cellAt rfl
  have d2 : ∀ W, Fr [w1.heap.size, w2.heap.size] w5 W → W.cell? ⟨g0, 2, none⟩ = some (.int .i64 x3) := fun W f => (HG0_5.out.fr f hgn0).cellAt rfl
  have d3 : ∀ W, Fr [w1.heap.size, w2.heap.size] w5 W → W.cell? ⟨g0, 3, none⟩ = some (.int .i64 x4) := fun W f => (HG0_5.out.fr f hgn0).cellAt rfl
  have d4 : ∀ W, Fr [w1.heap.size, w2.heap.size] w5 W → W.cell? ⟨g0, 4, none⟩ = some (.int .i64 x5) := fun W f => (HG0_5.out.fr f hgn0).cellAt rfl
  simp only [pairs, pickN]
  refine wpO_take (.agg (rdc a n c s0).toArray) hS (by rfl) (by rfl) (fun w' hw' => run_loadB 92 _ rfl w.heap.size (by rfl) 92 _ _ (HB5.out.fr hw' hwn) Try.underlying92 rfl (read_size a n c s0)) ?_
  simp only [Act.put, List.setIfInBounds_toArray, List.set_cons_zero, List.set_cons_succ]
  repeat (first | (refine wpO_free ?_ (by rfl) (by rfl) (fun w' => ?_) ?_; rotate_left; (go_simp; rfl); simp only [Act.put, List.setIfInBounds_toArray, List.set_cons_zero, List.set_cons_succ]) | (refine wpO_take ?_ hS (by rfl) (by rfl) (fun w' hw' => ?_) ?_; rotate_left; (go_simp; rfl); simp only [Act.put, List.setIfInBounds_toArray, List.set_cons_zero, List.set_cons_succ]) | (refine wpO_pass (by rfl) ?_; simp only [Act.put, List.setIfInBounds_toArray, List.set_cons_zero, List.set_cons_succ]))
  refine wpO_eff (by rfl) ?_
  refine wpList_storeB rfl 92 _ _ rfl w1.heap.size 0 (rdc a n c s0) (by rfl) (by rfl) 92 _ (Blk.drew HC_5.out) (by show 0 + 3 ≤ 3; omega) (read_size a n c s0) (rdc_one _ _ _ _) ?_
  intro wa Ba Fa Sa
  rw [splice_all _ _ (by rfl)] at Ba
  have Sa1 : Fr [w1.heap.size, w2.heap.size] w5 wa := hS.trans Fa (fun k hk _ => by rw [List.mem_singleton.1 hk]; simp)
  refine effQ_keep Sa1 ?_
  simp only [Act.put, List.setIfInBounds_toArray, List.set_cons_zero, List.set_cons_succ]
  refine wpO_eff (by rfl) ?_
  refine wpList_storeB rfl 27 _ _ rfl w2.heap.size 0 (([.int .i64 x1, .int .i64 x2, .int .i64 x3, .int .i64 x4, .int .i64 x5] : List Value)) (by rfl) (by rfl) 27 _ ((Blk.drew HD5.out).fr Fa (by simp; omega)) (by show 0 + 5 ≤ 5; omega) (by kernel_rfl) (by simp [Value.oneCell']) ?_
  intro wb Bb Fb Sb
  rw [splice_all _ _ (by rfl)] at Bb
  have Sb1 : Fr [w1.heap.size, w2.heap.size] w5 wb := Sa1.trans Fb (fun k hk _ => by rw [List.mem_singleton.1 hk]; simp)
  have Ba1 := Ba.fr Fb (by simp; omega)
  refine effQ_keep Sb1 ?_
  simp only [Act.put, List.setIfInBounds_toArray, List.set_cons_zero, List.set_cons_succ]
  refine wpO_nil ?_
  have HBa := Lib.hid Ba1
  have HBb := Lib.hid Bb
  have HSb := Lib.hid Sb1
  have FF : Fr [] w wb := HF5.out.trans Sb1 (fun k hk hlt => by simp at hk; omega)
  clear hS d0 d1 d2 d3 d4 Ba Ba1 Bb Fa Fb Sa Sb Sa1 Sb1
  go_wp2_with fail
  refine bodyPost_ret (results_cellB_cellB rfl _ _ w1.heap.size w2.heap.size 92 27 _ _ _ _ (by rfl) HBa.out Try.underlying92 rfl (read_size a n c s0) (by rfl) HBb.out Try.underlying27 rfl (by kernel_rfl)) rfl ⟨rfl, FF⟩
set_option maxRecDepth 100000 in
set_option maxHeartbeats 4000000 in
theorem aTaskR_calls {w : World} {a : Option Addr} {n c : Nat} {l : List Int} (hs : Src l a n c) (hr : Rd w a (bv l)) (s : Int × Int) :
    Calls Try.prog 49 #[.agg (rdc a n c s).toArray] w (RdT a n c (rT l s) w) := by
  have HK0 := Lib.hid (fun (W : World) (f : Fr [] w W) => numsR_calls (w := W) hs (hr.fr0 f) s 5 (by decide))
  rw [nums_5] at HK0
  have hK := rI_keep l
  unfold rT
  dsimp only
  generalize rI l s = r1 at *
  obtain ⟨x1, t1⟩ := r1
  dsimp only at HK0 ⊢
  generalize rI l t1 = r2 at *
  obtain ⟨x2, t2⟩ := r2
  dsimp only at HK0 ⊢
  have hv : rV l t2 = (((rI l t2).1, (rI l (rI l t2).2).1), (rI l (rI l t2).2).2) := rfl
  rw [hv]
  dsimp only
  generalize rI l t2 = r3 at *
  obtain ⟨x3, t3⟩ := r3
  dsimp only at HK0 ⊢
  generalize rI l t3 = r4 at *
  obtain ⟨x4, t4⟩ := r4
  dsimp only at HK0 ⊢
  generalize rI l t4 = r5 at *
  obtain ⟨x5, s0⟩ := r5
  dsimp only at HK0 ⊢
  clear hv
  have HK1 := Lib.hid (fun (W : World) (f : Fr [] w W) => listR_calls (w := W) hs (hr.fr0 f) s0)
  generalize allR l (rI l) s0 = r6 at *
  obtain ⟨ys, s1⟩ := r6
  dsimp only at HK1 ⊢
  have HK2_ := Lib.hid (fun (W : World) (f : Fr [] w W) => numR_calls (w := W) hs (hr.fr0 f) s1)
  have hk := hK s1
  generalize rI l s1 = r7 at *
  obtain ⟨y, s2⟩ := r7
  dsimp only at HK2_ hk ⊢
  have HEK := Lib.hid hk
  have HK2 := HK2_
  clear hK hk HK2_
  clear hs hr
  go_enter Try.func49, Try.ntmps49
  go_wp2_with (first
    | (have z := HD3.out; clear z; refine wpList_loadB rfl 92 _ rfl w.heap.size (by rfl) 92 _ _ HB3.out Try.underlying92 rfl (read_size a n c s) ?_)
    | (have z := HC2.out; clear z; refine wpList_allocZ rfl 30 rfl _ rtask_zero ?_; intro w3 B3 F3 S3; have HB3 := Lib.hid (HB2.out.fr F3 (by simp)); have HC3 := Lib.hid (HC2.out.fr F3 (by simp)); have HD3 := Lib.hid B3; have HF3 := Lib.hid (HF2.out.trans0 F3); have HS3 := Lib.hid S3; clear B3 F3 S3)
    | (have z := HB1.out; clear z; refine wpList_allocZ rfl 92 rfl _ read_zero ?_; intro w2 B2 F2 S2; have HB2 := Lib.hid (HB1.out.fr F2 (by simp)); have HC2 := Lib.hid B2; have HF2 := Lib.hid (HF1.out.trans0 F2); have HS2 := Lib.hid S2; clear B2 F2 S2)
    | (refine wpList_boxB rfl 92 _ rfl (rdc a n c s) (by rfl) ?_; intro w1 B1 F1 S1; have HB1 := Lib.hid B1; have HF1 := Lib.hid F1; have HS1 := Lib.hid S1; clear B1 F1 S1))
  have hb1 : w.heap.size < w1.heap.size ∧ w1.heap.size < w2.heap.size ∧ w2.heap.size < w3.heap.size := by have := HS1.out; have := HS2.out; have := HS3.out; omega
  obtain ⟨hb1, hb2, hb3⟩ := hb1
  refine (HK0.out w3 HF3.out).mono ?_
  rintro e w4 ⟨g0, rfl, hg0, G, f4⟩
  have HG0_4 := Lib.hid G
  have hg0 := Nat.lt_of_lt_of_le hb3 hg0
  clear G
  have HB4 := Lib.hid (HB3.out.fr f4 (by simp))
  have HC_4 := Lib.hid (HC3.out.fr f4 (by simp))
  have HD4 := Lib.hid (HD3.out.fr f4 (by simp))
  have HF4 := Lib.hid (HF3.out.trans0 f4)
  have HZ4 : w3.heap.size ≤ w4.heap.size := by have := HF4.out.size; have := HF3.out.size; first | exact f4.size | omega
  clear f4
  dsimp only
  go_wp2_with (first
    | (have z := HB5.out; clear z; refine wpList_loadB rfl 92 _ rfl w.heap.size (by rfl) 92 _ _ HB5.out Try.underlying92 rfl (read_size a n c s0) ?_)
    | (refine wpList_storeB rfl 92 _ _ rfl w.heap.size 0 (rdc a n c s0) (by rfl) (by rfl) 92 _ HB4.out (by show 0 + 3 ≤ 3; omega) (read_size a n c s0) (rdc_one _ _ _ _) ?_; intro w5 B F S; rw [splice_all _ _ (by rfl)] at B; have HB5 := Lib.hid B; have HC_5 := Lib.hid (HC_4.out.fr F (by simp; omega)); have HD5 := Lib.hid (HD4.out.fr F (by simp; omega)); have HF5 := Lib.hid (HF4.out.trans F (fun k hk hlt => by rw [List.mem_singleton.1 hk] at hlt; omega)); have HZ5 : w3.heap.size ≤ w5.heap.size := Nat.le_trans HZ4 F.size; have HG0_5 := Lib.hid (HG0_4.out.fr F (by simp; omega)); clear B F S))
  refine (HK1.out w5 HF5.out).mono ?_
  rintro e w6 ⟨v1, xs, rfl, O, hxs, f4⟩
  obtain ⟨a1, k1, rfl, _, _, _⟩ := O.form
  have HO1_6 := Lib.hid (O.base (base' := w3.heap.size) HZ5)
  have HXS := Lib.hid hxs
  clear O hxs
  have HG0_6 := Lib.hid (HG0_5.out.fr f4 (by simp))
  have HB6 := Lib.hid (HB5.out.fr f4 (by simp))
  have HC_6 := Lib.hid (HC_5.out.fr f4 (by simp))
  have HD6 := Lib.hid (HD5.out.fr f4 (by simp))
  have HF6 := Lib.hid (HF5.out.trans0 f4)
  have HZ6 : w3.heap.size ≤ w6.heap.size := Nat.le_trans HZ5 f4.size
  clear f4
  dsimp only
  go_wp2_with (first
    | (have z := HB7.out; clear z; refine wpList_loadB rfl 92 _ rfl w.heap.size (by rfl) 92 _ _ HB7.out Try.underlying92 rfl (read_size a n c s1) ?_)
    | (refine wpList_storeB rfl 92 _ _ rfl w.heap.size 0 (rdc a n c s1) (by rfl) (by rfl) 92 _ HB6.out (by show 0 + 3 ≤ 3; omega) (read_size a n c s1) (rdc_one _ _ _ _) ?_; intro w7 B F S; rw [splice_all _ _ (by rfl)] at B; have HB7 := Lib.hid B; have HC_7 := Lib.hid (HC_6.out.fr F (by simp; omega)); have HD7 := Lib.hid (HD6.out.fr F (by simp; omega)); have HF7 := Lib.hid (HF6.out.trans F (fun k hk hlt => by rw [List.mem_singleton.1 hk] at hlt; omega)); have HZ7 : w3.heap.size ≤ w7.heap.size := Nat.le_trans HZ6 F.size; have HG0_7 := Lib.hid (HG0_6.out.fr F (by simp; omega)); have HO1_7 := Lib.hid (HO1_6.out.fr F (fun g hg hm => by have := (HO1_6.out.lt hg).1; have := List.mem_singleton.1 hm; omega)); clear B F S))
  refine (HK2.out w7 HF7.out).mono ?_
  rintro e w8 ⟨rfl, f4⟩
  have HG0_8 := Lib.hid (HG0_7.out.fr f4 (by simp))
  have HO1_8 := Lib.hid (HO1_7.out.fr0 f4)
  have HB8 := Lib.hid (HB7.out.fr f4 (by simp))
  have HC_8 := Lib.hid (HC_7.out.fr f4 (by simp))
  have HD8 := Lib.hid (HD7.out.fr f4 (by simp))
  have HF8 := Lib.hid (HF7.out.trans0 f4)
  have HZ8 : w3.heap.size ≤ w8.heap.size := Nat.le_trans HZ7 f4.size
  clear f4
  dsimp only
  go_wp2_with (refine wpList_storeB rfl 92 _ _ rfl w.heap.size 0 (rdc a n c s2) (by rfl) (by rfl) 92 _ HB8.out (by show 0 + 3 ≤ 3; omega) (read_size a n c s2) (rdc_one _ _ _ _) ?_; intro w9 B F S; rw [splice_all _ _ (by rfl)] at B; have HB9 := Lib.hid B; have HC_9 := Lib.hid (HC_8.out.fr F (by simp; omega)); have HD9 := Lib.hid (HD8.out.fr F (by simp; omega)); have HF9 := Lib.hid (HF8.out.trans F (fun k hk hlt => by rw [List.mem_singleton.1 hk] at hlt; omega)); have HZ9 : w3.heap.size ≤ w9.heap.size := Nat.le_trans HZ8 F.size; have HG0_9 := Lib.hid (HG0_8.out.fr F (by simp; omega)); have HO1_9 := Lib.hid (HO1_8.out.fr F (fun g hg hm => by have := (HO1_8.out.lt hg).1; have := List.mem_singleton.1 hm; omega)); clear B F S)
  refine wp_region_ord (Fr [w1.heap.size, w2.heap.size] w9) [0, 1, 2, 3, 4, 5, 6, 7, 8, 9, 10, 11, 12, 13, 14, 15, 16, 17, 18, 19, 20, 21] [] [20, 21] [0, 3, 6, 9, 12, 16] mixed (by kernel_rfl) ?_
  have hS : Fr [w1.heap.size, w2.heap.size] w9 w9.drew := (Fr.refl _ _).drew
  have hwn : w.heap.size ∉ [w1.heap.size, w2.heap.size] := by simp; omega
  have hsz5 : w9.drew.heap.size = w9.heap.size := rfl
  have hgn0 : g0 ∉ [w1.heap.size, w2.heap.size] := by simp; omega
  have d0 : ∀ W, Fr [w1.heap.size, w2.heap.size] w9 W → W.cell? ⟨g0, 0, none⟩ = some (.int .i64 x1) := fun W f => (HG0_9.out.fr f hgn0).cellAt rfl
  have d1 : ∀ W, Fr [w1.heap.size, w2.heap.size] w9 W → W.cell? ⟨g0, 1, none⟩ = some (.int .i64 x2) := fun W f => (HG0_9.out.fr f hgn0).cellAt rfl
  have d2 : ∀ W, Fr [w1.heap.size, w2.heap.size] w9 W → W.cell? ⟨g0, 2, none⟩ = some (.int .i64 x3) := fun W f => (HG0_9.out.fr f hgn0).cellAt rfl
  have d3 : ∀ W, Fr [w1.heap.size, w2.heap.size] w9 W → W.cell? ⟨g0, 3, none⟩ = some (.int .i64 x4) := fun W f => (HG0_9.out.fr f hgn0).cellAt rfl
  have d4 : ∀ W, Fr [w1.heap.size, w2.heap.size] w9 W → W.cell? ⟨g0, 4, none⟩ = some (.int .i64 x5) := fun W f => (HG0_9.out.fr f hgn0).cellAt rfl
  simp only [pairs, pickN]
  refine wpO_take (.agg (rdc a n c s2).toArray) hS (by rfl) (by rfl) (fun w' hw' => run_loadB 92 _ rfl w.heap.size (by rfl) 92 _ _ (HB9.out.fr hw' hwn) Try.underlying92 rfl (read_size a n c s2)) ?_
  simp only [Act.put, List.setIfInBounds_toArray, List.set_cons_zero, List.set_cons_succ]
  repeat (first | (refine wpO_free ?_ (by rfl) (by rfl) (fun w' => ?_) ?_; rotate_left; (go_simp; rfl); simp only [Act.put, List.setIfInBounds_toArray, List.set_cons_zero, List.set_cons_succ]) | (refine wpO_take ?_ hS (by rfl) (by rfl) (fun w' hw' => ?_) ?_; rotate_left; (go_simp; rfl); simp only [Act.put, List.setIfInBounds_toArray, List.set_cons_zero, List.set_cons_succ]) | (refine wpO_pass (by rfl) ?_; simp only [Act.put, List.setIfInBounds_toArray, List.set_cons_zero, List.set_cons_succ]))
  refine wpO_eff (by rfl) ?_
  refine wpList_storeB rfl 92 _ _ rfl w1.heap.size 0 (rdc a n c s2) (by rfl) (by rfl) 92 _ (Blk.drew HC_9.out) (by show 0 + 3 ≤ 3; omega) (read_size a n c s2) (rdc_one _ _ _ _) ?_
  intro wa Ba Fa Sa
  rw [splice_all _ _ (by rfl)] at Ba
  have Sa1 : Fr [w1.heap.size, w2.heap.size] w9 wa := hS.trans Fa (fun k hk _ => by rw [List.mem_singleton.1 hk]; simp)
  refine effQ_keep Sa1 ?_
  simp only [Act.put, List.setIfInBounds_toArray, List.set_cons_zero, List.set_cons_succ]
  refine wpO_eff (by rfl) ?_
  refine wpList_storeB rfl 30 _ _ rfl w2.heap.size 0 (([.int .i64 x1, .int .i64 x2, .int .i64 x3, .int .i64 x4, .int .i64 x5, .slice a1 xs.length k1, .int .i64 y] : List Value)) (by rfl) (by rfl) 30 _ ((Blk.drew HD9.out).fr Fa (by simp; omega)) (by show 0 + 7 ≤ 7; omega) (by kernel_rfl) (by simp [Value.oneCell']) ?_
  intro wb Bb Fb Sb
  rw [splice_all _ _ (by rfl)] at Bb
  have Sb1 : Fr [w1.heap.size, w2.heap.size] w9 wb := Sa1.trans Fb (fun k hk _ => by rw [List.mem_singleton.1 hk]; simp)
  have Ba1 := Ba.fr Fb (by simp; omega)
  refine effQ_keep Sb1 ?_
  simp only [Act.put, List.setIfInBounds_toArray, List.set_cons_zero, List.set_cons_succ]
  refine wpO_nil ?_
  have HBa := Lib.hid Ba1
  have HBb := Lib.hid Bb
  have HSb := Lib.hid Sb1
  have FF : Fr [] w wb := HF9.out.trans Sb1 (fun k hk hlt => by simp at hk; omega)
  clear hS d0 d1 d2 d3 d4 Ba Ba1 Bb Fa Fb Sa Sb Sa1 Sb1
  go_wp2_with fail
  refine bodyPost_ret (results_cellB_cellB rfl _ _ w1.heap.size w2.heap.size 92 30 _ _ _ _ (by rfl) HBa.out Try.underlying92 rfl (read_size a n c s2) (by rfl) HBb.out Try.underlying30 rfl (by kernel_rfl)) rfl ⟨⟨x1, x2, x3, x4, x5, xs, y⟩, a1, k1, rfl, ((HO1_9.out.fr HSb.out (fun g hg hm => by have := (HO1_9.out.lt hg).1; simp at hm; omega)).base (by omega)), fun h => by rw [HXS.out (HEK.out h)], FF⟩
set_option maxRecDepth 100000 in
set_option maxHeartbeats 4000000 in
theorem aLeaseR_calls {w : World} {a : Option Addr} {n c : Nat} {l : List Int} (hs : Src l a n c) (hr : Rd w a (bv l)) (s : Int × Int) :
    Calls Try.prog 85 #[.agg (rdc a n c s).toArray] w (RdL a n c (rL l s) w) := by
  have HK0 := Lib.hid (fun (W : World) (f : Fr [] w W) => numsR_calls (w := W) hs (hr.fr0 f) s 3 (by decide))
  rw [nums_3] at HK0
  have hK := rI_keep l
  have hU := rU_keep l 1 4
  unfold rL
  dsimp only
  generalize rI l s = r1 at *
  obtain ⟨x1, t1⟩ := r1
  dsimp only at HK0 ⊢
  generalize rI l t1 = r2 at *
  obtain ⟨x2, t2⟩ := r2
  dsimp only at HK0 ⊢
  generalize rI l t2 = r3 at *
  obtain ⟨x3, s0⟩ := r3
  dsimp only at HK0 ⊢
  have HK1 := Lib.hid (fun (W : World) (f : Fr [] w W) => listR_calls (w := W) hs (hr.fr0 f) s0)
  generalize allR l (rI l) s0 = r6 at *
  obtain ⟨ys, s1⟩ := r6
  dsimp only at HK1 ⊢
  have HK2_ := Lib.hid (fun (W : World) (f : Fr [] w W) => numsR_calls (w := W) hs (hr.fr0 f) s1 3 (by decide))
  rw [nums_3] at HK2_
  have hk1 := hK s1
  generalize rI l s1 = r7 at *
  obtain ⟨y1, t4⟩ := r7
  dsimp only at HK2_ hk1 ⊢
  have hk2 := hK t4
  generalize rI l t4 = r8 at *
  obtain ⟨y2, t5⟩ := r8
  dsimp only at HK2_ hk2 ⊢
  have hk3 := hK t5
  generalize rI l t5 = r9 at *
  obtain ⟨y3, s2⟩ := r9
  dsimp only at HK2_ hk3 ⊢
  have HK3_ := Lib.hid (fun (W : World) (f : Fr [] w W) => uptoR_calls (w := W) hs (hr.fr0 f) s2 1 (by decide) (by decide))
  have hk4 := hU s2
  generalize rU l 1 4 s2 = r10 at *
  obtain ⟨z, s3⟩ := r10
  dsimp only at HK3_ hk4 ⊢
  have HEK := Lib.hid (fun h => hk1 (hk2 (hk3 (hk4 h))))
  have HK2 := HK2_
  have HK3 := HK3_
  clear hK hU hk1 hk2 hk3 hk4 HK2_ HK3_
  clear hs hr
  go_enter Try.func85, Try.ntmps85
  go_wp2_with (first
    | (have z := HD3.out; clear z; refine wpList_loadB rfl 92 _ rfl w.heap.size (by rfl) 92 _ _ HB3.out Try.underlying92 rfl (read_size a n c s) ?_)
    | (have z := HC2.out; clear z; refine wpList_allocZ rfl 124 rfl _ lease_zero9 ?_; intro w3 B3 F3 S3; have HB3 := Lib.hid (HB2.out.fr F3 (by simp)); have HC3 := Lib.hid (HC2.out.fr F3 (by simp)); have HD3 := Lib.hid B3; have HF3 := Lib.hid (HF2.out.trans0 F3); have HS3 := Lib.hid S3; clear B3 F3 S3)
    | (have z := HB1.out; clear z; refine wpList_allocZ rfl 92 rfl _ read_zero ?_; intro w2 B2 F2 S2; have HB2 := Lib.hid (HB1.out.fr F2 (by simp)); have HC2 := Lib.hid B2; have HF2 := Lib.hid (HF1.out.trans0 F2); have HS2 := Lib.hid S2; clear B2 F2 S2)
    | (refine wpList_boxB rfl 92 _ rfl (rdc a n c s) (by rfl) ?_; intro w1 B1 F1 S1; have HB1 := Lib.hid B1; have HF1 := Lib.hid F1; have HS1 := Lib.hid S1; clear B1 F1 S1))
  have hb1 : w.heap.size < w1.heap.size ∧ w1.heap.size < w2.heap.size ∧ w2.heap.size < w3.heap.size := by have := HS1.out; have := HS2.out; have := HS3.out; omega
  obtain ⟨hb1, hb2, hb3⟩ := hb1
  refine (HK0.out w3 HF3.out).mono ?_
  rintro e w4 ⟨g0, rfl, hg0, G, f4⟩
  have HG0_4 := Lib.hid G
  have hg0 := Nat.lt_of_lt_of_le hb3 hg0
  clear G
  have HB4 := Lib.hid (HB3.out.fr f4 (by simp))
  have HC_4 := Lib.hid (HC3.out.fr f4 (by simp))
  have HD4 := Lib.hid (HD3.out.fr f4 (by simp))
  have HF4 := Lib.hid (HF3.out.trans0 f4)
  have HZ4 : w3.heap.size ≤ w4.heap.size := by have := HF4.out.size; have := HF3.out.size; first | exact f4.size | omega
  clear f4
  dsimp only
  go_wp2_with (first
    | (have z := HB5.out; clear z; refine wpList_loadB rfl 92 _ rfl w.heap.size (by rfl) 92 _ _ HB5.out Try.underlying92 rfl (read_size a n c s0) ?_)
    | (refine wpList_storeB rfl 92 _ _ rfl w.heap.size 0 (rdc a n c s0) (by rfl) (by rfl) 92 _ HB4.out (by show 0 + 3 ≤ 3; omega) (read_size a n c s0) (rdc_one _ _ _ _) ?_; intro w5 B F S; rw [splice_all _ _ (by rfl)] at B; have HB5 := Lib.hid B; have HC_5 := Lib.hid (HC_4.out.fr F (by simp; omega)); have HD5 := Lib.hid (HD4.out.fr F (by simp; omega)); have HF5 := Lib.hid (HF4.out.trans F (fun k hk hlt => by rw [List.mem_singleton.1 hk] at hlt; omega)); have HZ5 : w3.heap.size ≤ w5.heap.size := Nat.le_trans HZ4 F.size; have HG0_5 := Lib.hid (HG0_4.out.fr F (by simp; omega)); clear B F S))
  refine (HK1.out w5 HF5.out).mono ?_
  rintro e w6 ⟨v1, xs, rfl, O, hxs, f4⟩
  obtain ⟨a1, k1, rfl, _, _, _⟩ := O.form
  have HO1_6 := Lib.hid (O.base (base' := w3.heap.size) HZ5)
  have HXS := Lib.hid hxs
  clear O hxs
  have HG0_6 := Lib.hid (HG0_5.out.fr f4 (by simp))
  have HB6 := Lib.hid (HB5.out.fr f4 (by simp))
  have HC_6 := Lib.hid (HC_5.out.fr f4 (by simp))
  have HD6 := Lib.hid (HD5.out.fr f4 (by simp))
  have HF6 := Lib.hid (HF5.out.trans0 f4)
  have HZ6 : w3.heap.size ≤ w6.heap.size := Nat.le_trans HZ5 f4.size
  clear f4
  dsimp only
  go_wp2_with (first
    | (have z := HB7.out; clear z; refine wpList_loadB rfl 92 _ rfl w.heap.size (by rfl) 92 _ _ HB7.out Try.underlying92 rfl (read_size a n c s1) ?_)
    | (refine wpList_storeB rfl 92 _ _ rfl w.heap.size 0 (rdc a n c s1) (by rfl) (by rfl) 92 _ HB6.out (by show 0 + 3 ≤ 3; omega) (read_size a n c s1) (rdc_one _ _ _ _) ?_; intro w7 B F S; rw [splice_all _ _ (by rfl)] at B; have HB7 := Lib.hid B; have HC_7 := Lib.hid (HC_6.out.fr F (by simp; omega)); have HD7 := Lib.hid (HD6.out.fr F (by simp; omega)); have HF7 := Lib.hid (HF6.out.trans F (fun k hk hlt => by rw [List.mem_singleton.1 hk] at hlt; omega)); have HZ7 : w3.heap.size ≤ w7.heap.size := Nat.le_trans HZ6 F.size; have HG0_7 := Lib.hid (HG0_6.out.fr F (by simp; omega)); have HO1_7 := Lib.hid (HO1_6.out.fr F (fun g hg hm => by have := (HO1_6.out.lt hg).1; have := List.mem_singleton.1 hm; omega)); clear B F S))
  refine (HK2.out w7 HF7.out).mono ?_
  rintro e w8 ⟨g2, rfl, hg2, G, f4⟩
  have HG2_8 := Lib.hid G
  have hg2 := Nat.lt_of_lt_of_le (Nat.lt_of_lt_of_le hb3 (show w3.heap.size ≤ w7.heap.size by have := HZ7; omega)) hg2
  clear G
  have HG0_8 := Lib.hid (HG0_7.out.fr f4 (by simp))
  have HO1_8 := Lib.hid (HO1_7.out.fr0 f4)
  have HB8 := Lib.hid (HB7.out.fr f4 (by simp))
  have HC_8 := Lib.hid (HC_7.out.fr f4 (by simp))
  have HD8 := Lib.hid (HD7.out.fr f4 (by simp))
  have HF8 := Lib.hid (HF7.out.trans0 f4)
  have HZ8 : w3.heap.size ≤ w8.heap.size := Nat.le_trans HZ7 f4.size
  clear f4
  dsimp only
  go_wp2_with (first
    | (have z := HB9.out; clear z; refine wpList_loadB rfl 92 _ rfl w.heap.size (by rfl) 92 _ _ HB9.out Try.underlying92 rfl (read_size a n c s2) ?_)
    | (refine wpList_storeB rfl 92 _ _ rfl w.heap.size 0 (rdc a n c s2) (by rfl) (by rfl) 92 _ HB8.out (by show 0 + 3 ≤ 3; omega) (read_size a n c s2) (rdc_one _ _ _ _) ?_; intro w9 B F S; rw [splice_all _ _ (by rfl)] at B; have HB9 := Lib.hid B; have HC_9 := Lib.hid (HC_8.out.fr F (by simp; omega)); have HD9 := Lib.hid (HD8.out.fr F (by simp; omega)); have HF9 := Lib.hid (HF8.out.trans F (fun k hk hlt => by rw [List.mem_singleton.1 hk] at hlt; omega)); have HZ9 : w3.heap.size ≤ w9.heap.size := Nat.le_trans HZ8 F.size; have HG0_9 := Lib.hid (HG0_8.out.fr F (by simp; omega)); have HO1_9 := Lib.hid (HO1_8.out.fr F (fun g hg hm => by have := (HO1_8.out.lt hg).1; have := List.mem_singleton.1 hm; omega)); have HG2_9 := Lib.hid (HG2_8.out.fr F (by simp; omega)); clear B F S))
  refine (HK3.out w9 HF9.out).mono ?_
  rintro e w10 ⟨rfl, f4⟩
  have HG0_10 := Lib.hid (HG0_9.out.fr f4 (by simp))
  have HO1_10 := Lib.hid (HO1_9.out.fr0 f4)
  have HG2_10 := Lib.hid (HG2_9.out.fr f4 (by simp))
  have HB10 := Lib.hid (HB9.out.fr f4 (by simp))
  have HC_10 := Lib.hid (HC_9.out.fr f4 (by simp))
  have HD10 := Lib.hid (HD9.out.fr f4 (by simp))
  have HF10 := Lib.hid (HF9.out.trans0 f4)
  have HZ10 : w3.heap.size ≤ w10.heap.size := Nat.le_trans HZ9 f4.size
  clear f4
  dsimp only
  go_wp2_with (refine wpList_storeB rfl 92 _ _ rfl w.heap.size 0 (rdc a n c s3) (by rfl) (by rfl) 92 _ HB10.out (by show 0 + 3 ≤ 3; omega) (read_size a n c s3) (rdc_one _ _ _ _) ?_; intro w11 B F S; rw [splice_all _ _ (by rfl)] at B; have HB11 := Lib.hid B; have HC_11 := Lib.hid (HC_10.out.fr F (by simp; omega)); have HD11 := Lib.hid (HD10.out.fr F (by simp; omega)); have HF11 := Lib.hid (HF10.out.trans F (fun k hk hlt => by rw [List.mem_singleton.1 hk] at hlt; omega)); have HZ11 : w3.heap.size ≤ w11.heap.size := Nat.le_trans HZ10 F.size; have HG0_11 := Lib.hid (HG0_10.out.fr F (by simp; omega)); have HO1_11 := Lib.hid (HO1_10.out.fr F (fun g hg hm => by have := (HO1_10.out.lt hg).1; have := List.mem_singleton.1 hm; omega)); have HG2_11 := Lib.hid (HG2_10.out.fr F (by simp; omega)); clear B F S)
  refine wp_region_ord (Fr [w1.heap.size, w2.heap.size] w11) [0, 1, 2, 3, 4, 5, 6, 7, 8, 9, 10, 11, 12, 13, 14, 15, 16, 17, 18, 19, 20, 21, 22, 23, 24] [] [23, 24] [0, 3, 6, 9, 13, 16, 19] mixed (by kernel_rfl) ?_
  have hS : Fr [w1.heap.size, w2.heap.size] w11 w11.drew := (Fr.refl _ _).drew
  have hwn : w.heap.size ∉ [w1.heap.size, w2.heap.size] := by simp; omega
  have hsz5 : w11.drew.heap.size = w11.heap.size := rfl
  have hgn0 : g0 ∉ [w1.heap.size, w2.heap.size] := by simp; omega
  have d0 : ∀ W, Fr [w1.heap.size, w2.heap.size] w11 W → W.cell? ⟨g0, 0, none⟩ = some (.int .i64 x1) := fun W f => (HG0_11.out.fr f hgn0).cellAt rfl
  have d1 : ∀ W, Fr [w1.heap.size, w2.heap.size] w11 W → W.cell? ⟨g0, 1, none⟩ = some (.int .i64 x2) := fun W f => (HG0_11.out.fr f hgn0).cellAt rfl
  have d2 : ∀ W, Fr [w1.heap.size, w2.heap.size] w11 W → W.cell? ⟨g0, 2, none⟩ = some (.int .i64 x3) := fun W f => (HG0_11.out.fr f hgn0).cellAt rfl
  have hgn2 : g2 ∉ [w1.heap.size, w2.heap.size] := by simp; omega
  have d3 : ∀ W, Fr [w1.heap.size, w2.heap.size] w11 W → W.cell? ⟨g2, 0, none⟩ = some (.int .i64 y1) := fun W f => (HG2_11.out.fr f hgn2).cellAt rfl
  have d4 : ∀ W, Fr [w1.heap.size, w2.heap.size] w11 W → W.cell? ⟨g2, 1, none⟩ = some (.int .i64 y2) := fun W f => (HG2_11.out.fr f hgn2).cellAt rfl
  have d5 : ∀ W, Fr [w1.heap.size, w2.heap.size] w11 W → W.cell? ⟨g2, 2, none⟩ = some (.int .i64 y3) := fun W f => (HG2_11.out.fr f hgn2).cellAt rfl
  simp only [pairs, pickN]
  refine wpO_take (.agg (rdc a n c s3).toArray) hS (by rfl) (by rfl) (fun w' hw' => run_loadB 92 _ rfl w.heap.size (by rfl) 92 _ _ (HB11.out.fr hw' hwn) Try.underlying92 rfl (read_size a n c s3)) ?_
  simp only [Act.put, List.setIfInBounds_toArray, List.set_cons_zero, List.set_cons_succ]
  repeat (first | (refine wpO_free ?_ (by rfl) (by rfl) (fun w' => ?_) ?_; rotate_left; (go_simp; rfl); simp only [Act.put, List.setIfInBounds_toArray, List.set_cons_zero, List.set_cons_succ]) | (refine wpO_take ?_ hS (by rfl) (by rfl) (fun w' hw' => ?_) ?_; rotate_left; (go_simp; rfl); simp only [Act.put, List.setIfInBounds_toArray, List.set_cons_zero, List.set_cons_succ]) | (refine wpO_pass (by rfl) ?_; simp only [Act.put, List.setIfInBounds_toArray, List.set_cons_zero, List.set_cons_succ]))
  refine wpO_eff (by rfl) ?_
  refine wpList_storeB rfl 92 _ _ rfl w1.heap.size 0 (rdc a n c s3) (by rfl) (by rfl) 92 _ (Blk.drew HC_11.out) (by show 0 + 3 ≤ 3; omega) (read_size a n c s3) (rdc_one _ _ _ _) ?_
  intro wa Ba Fa Sa
  rw [splice_all _ _ (by rfl)] at Ba
  have Sa1 : Fr [w1.heap.size, w2.heap.size] w11 wa := hS.trans Fa (fun k hk _ => by rw [List.mem_singleton.1 hk]; simp)
  refine effQ_keep Sa1 ?_
  simp only [Act.put, List.setIfInBounds_toArray, List.set_cons_zero, List.set_cons_succ]
  refine wpO_eff (by rfl) ?_
  refine wpList_storeB rfl 124 _ _ rfl w2.heap.size 0 (([.int .i64 x1, .int .i64 x2, .int .i64 x3, .slice a1 xs.length k1, .int .i64 y1, .int .i64 y2, .int .i64 y3, .bool (z == 1)] : List Value)) (by rfl) (by rfl) 124 _ ((Blk.drew HD11.out).fr Fa (by simp; omega)) (by show 0 + 8 ≤ 8; omega) (by kernel_rfl) (by simp [Value.oneCell']) ?_
  intro wb Bb Fb Sb
  rw [splice_all _ _ (by rfl)] at Bb
  have Sb1 : Fr [w1.heap.size, w2.heap.size] w11 wb := Sa1.trans Fb (fun k hk _ => by rw [List.mem_singleton.1 hk]; simp)
  have Ba1 := Ba.fr Fb (by simp; omega)
  refine effQ_keep Sb1 ?_
  simp only [Act.put, List.setIfInBounds_toArray, List.set_cons_zero, List.set_cons_succ]
  refine wpO_nil ?_
  have HBa := Lib.hid Ba1
  have HBb := Lib.hid Bb
  have HSb := Lib.hid Sb1
  have FF : Fr [] w wb := HF11.out.trans Sb1 (fun k hk hlt => by simp at hk; omega)
  clear hS d0 d1 d2 d3 d4 d5 Ba Ba1 Bb Fa Fb Sa Sb Sa1 Sb1
  go_wp2_with fail
  refine bodyPost_ret (results_cellB_cellB rfl _ _ w1.heap.size w2.heap.size 92 124 _ _ _ _ (by rfl) HBa.out Try.underlying92 rfl (read_size a n c s3) (by rfl) HBb.out Try.underlying124 rfl (by kernel_rfl)) rfl ⟨⟨x1, x2, x3, xs, y1, y2, y3, z == 1⟩, a1, k1, rfl, ((HO1_11.out.fr HSb.out (fun g hg hm => by have := (HO1_11.out.lt hg).1; simp at hm; omega)).base (by omega)), fun h => by rw [HXS.out (HEK.out h)], FF⟩
end Go.Fur
namespace Go.Fur
open Go Go.RowKit Go.Proofs Go.Proofs.YtmdfipahbhbgjaaW.PrintWords
set_option linter.unusedVariables false
set_option linter.unusedSimpArgs false
set_option maxRecDepth 100000 in
set_option maxHeartbeats 2000000 in
theorem endR_calls {w : World} {a : Option Addr} {n c : Nat} {l : List Int} (hl : l.length = n) (s : Int × Int) :
    Calls Try.prog 50 #[.agg (rdc a n c s).toArray] w (fun e w' => e = .returned (.tuple #[.int .i64 (endR l s).1, .int .i64 (endR l s).2]) ∧ Fr [] w w') := by
  subst hl
  obtain ⟨at0, er0⟩ := s
  by_cases he : er0 = 0
  · have hb : (er0 != 0) = false := by simpa using he
    by_cases h1 : at0 < (l.length : Int)
    · have e1 : endR l (at0, er0) = (at0, 7) := by unfold endR; rw [if_pos he, if_pos h1]
      rw [e1]
      clear e1 he
      go_enter Try.func50, Try.ntmps50
      go_wp2_with (refine wpList_boxB rfl 92 _ rfl (rdc a l.length c (at0, er0)) (by rfl) ?_; intro w1 B1 F1 S1; have c0 : w1.cell? ⟨w.heap.size, 0, none⟩ = some (.slice a l.length c) := B1.cellAt rfl; have c1 : w1.cell? ⟨w.heap.size, 1, none⟩ = some (.int .i64 at0) := B1.cellAt rfl; have c2 : w1.cell? ⟨w.heap.size, 2, none⟩ = some (.int .i64 er0) := B1.cellAt rfl; have HB1 := Lib.hid B1; have HF1 := Lib.hid F1; clear B1 F1 S1)
      go_ret2
      exact ⟨rfl, HF1.out⟩
    · have e1 : endR l (at0, er0) = (0, 0) := by unfold endR; rw [if_pos he, if_neg h1]
      rw [e1]
      clear e1 he
      go_enter Try.func50, Try.ntmps50
      go_wp2_with (refine wpList_boxB rfl 92 _ rfl (rdc a l.length c (at0, er0)) (by rfl) ?_; intro w1 B1 F1 S1; have c0 : w1.cell? ⟨w.heap.size, 0, none⟩ = some (.slice a l.length c) := B1.cellAt rfl; have c1 : w1.cell? ⟨w.heap.size, 1, none⟩ = some (.int .i64 at0) := B1.cellAt rfl; have c2 : w1.cell? ⟨w.heap.size, 2, none⟩ = some (.int .i64 er0) := B1.cellAt rfl; have HB1 := Lib.hid B1; have HF1 := Lib.hid F1; clear B1 F1 S1)
      go_ret2
      exact ⟨rfl, HF1.out⟩
  · have hb : (er0 != 0) = true := by simpa using he
    have e1 : endR l (at0, er0) = (at0, er0) := by unfold endR; rw [if_neg he]
    rw [e1]
    clear e1 he
    go_enter Try.func50, Try.ntmps50
    go_wp2_with (refine wpList_boxB rfl 92 _ rfl (rdc a l.length c (at0, er0)) (by rfl) ?_; intro w1 B1 F1 S1; have c0 : w1.cell? ⟨w.heap.size, 0, none⟩ = some (.slice a l.length c) := B1.cellAt rfl; have c1 : w1.cell? ⟨w.heap.size, 1, none⟩ = some (.int .i64 at0) := B1.cellAt rfl; have c2 : w1.cell? ⟨w.heap.size, 2, none⟩ = some (.int .i64 er0) := B1.cellAt rfl; have HB1 := Lib.hid B1; have HF1 := Lib.hid F1; clear B1 F1 S1)
    refine wp_region_ord (Fr [] w1) [0, 1, 2, 3, 4, 5] [] [] [1, 3] mixed (by kernel_rfl) ?_
    have hS : Fr [] w1 w1.drew := (Fr.refl _ _).drew
    have d1 : ∀ W, Fr [] w1 W → W.cell? ⟨w.heap.size, 1, none⟩ = some (.int .i64 at0) := fun W f => (HB1.out.fr f (by simp)).cellAt rfl
    have d2 : ∀ W, Fr [] w1 W → W.cell? ⟨w.heap.size, 2, none⟩ = some (.int .i64 er0) := fun W f => (HB1.out.fr f (by simp)).cellAt rfl
    simp only [pairs, pickN]
    repeat (first | (refine wpO_free ?_ (by rfl) (by rfl) (fun w' => ?_) ?_; rotate_left; (go_simp; rfl); simp only [Act.put, List.setIfInBounds_toArray, List.set_cons_zero, List.set_cons_succ]) | (refine wpO_take ?_ hS (by rfl) (by rfl) (fun w' hw' => ?_) ?_; rotate_left; (go_simp; rfl); simp only [Act.put, List.setIfInBounds_toArray, List.set_cons_zero, List.set_cons_succ]) | (refine wpO_pass (by rfl) ?_; simp only [Act.put, List.setIfInBounds_toArray, List.set_cons_zero, List.set_cons_succ]))
    refine wpO_nil ?_
    have HF2 := Lib.hid (HF1.out.trans0 hS)
    clear hS d1 d2 c0 c1 c2
    go_wp2_with fail
    go_ret2
    exact ⟨rfl, HF2.out⟩
def LeasE (a : Option Addr) (n c : Nat) (r : List Lea × Int × Int) (w : World) (e : Ending) (w' : World) : Prop := ∃ v xs, e = .returned (.tuple #[.agg (rdc a n c r.2).toArray, v]) ∧ RowW (LeaW w.heap.size) 8 124 w.heap.size w' v xs ∧ (r.2.2 = 0 → xs = r.1) ∧ Fr [] w w'
def LeasR2 (w : World) (a : Option Addr) (n c : Nat) (l : List Int) (m : Nat) (sr : Int × Int) (b1 b2 : Nat) (v i : Value) (wr : World) : Prop :=
  ∃ (j : Nat) (sj : Int × Int) (xs : List Lea), j ≤ m ∧ i = .int .i64 j ∧ xs.length = j ∧ Blk wr b1 92 (rdc a n c sj) ∧ Blk wr b2 92 (rdc none 0 0 (0, 0)) ∧ RowW (LeaW w.heap.size) 8 124 w.heap.size wr v xs ∧ manyR (rL l) m sr = (xs ++ (manyR (rL l) (m - j) sj).1, (manyR (rL l) (m - j) sj).2) ∧ Fr [] w wr
/-- A row of leases stays where a block of another type is written. -/
theorem RowW.leaFr {base : Nat} {w w' : World} {v : Value} {l : List Lea} {g : Nat} {t : TypeId} {cs : List Value} (h : RowW (LeaW base) 8 124 base w v l) (hb : Blk w g t cs) (f : Fr [g] w w') (h1 : (124 : TypeId) ≠ t) (h2 : (3 : TypeId) ≠ t) : RowW (LeaW base) 8 124 base w' v l :=
  h.fr f (fun k hk hm => by rw [List.mem_singleton.1 hm] at hk; exact h.ne hb h1 hk) (fun cs' t' hh => LeaW.frT (e := t) (fun k hk => by rw [List.mem_singleton.1 hk]; exact ⟨_, hb⟩) f h2 hh)
set_option maxRecDepth 100000 in
set_option maxHeartbeats 4000000 in
theorem leasR_calls {w : World} {a : Option Addr} {n c : Nat} {l : List Int} (hs : Src l a n c) (hr : Rd w a (bv l)) (s : Int × Int) :
    Calls Try.prog 54 #[.agg (rdc a n c s).toArray] w (LeasE a n c (allR l (rL l) s) w) := by
  have HC := Lib.hid (fun (W : World) (f : Fr [] w W) (s : Int × Int) => aLeaseR_calls (w := W) hs (hr.fr0 f) s)
  have HT := Lib.hid (fun (W : World) (f : Fr [] w W) => totalR_calls (w := W) hs (hr.fr0 f) s)
  obtain ⟨m, hm, hr1⟩ := rU_1024 l hs.byt s
  unfold allR
  generalize rU l 1024 3 s = r at *
  obtain ⟨r1, sr⟩ := r
  dsimp only at hr1 HT ⊢
  subst hr1
  rw [Int.toNat_natCast]
  have hq : manyR (rL l) m sr = manyR (rL l) m sr := rfl
  generalize hQ : manyR (rL l) m sr = Q at hq ⊢
  have HQ := Lib.hid hQ
  clear hs hr hq hQ
  go_enter Try.func54, Try.ntmps54
  go_wp2_with (first
    | (have z := HC2.out; clear z; refine wpList_loadB rfl 92 _ rfl w.heap.size (by rfl) 92 _ _ HB2.out Try.underlying92 rfl (read_size a n c s) ?_)
    | (have z := HB1.out; clear z; refine wpList_allocZ rfl 92 rfl _ read_zero ?_; intro w2 B2 F2 S2; have HB2 := Lib.hid (HB1.out.fr F2 (by simp)); have HC2 := Lib.hid B2; have HF2 := Lib.hid (HF1.out.trans0 F2); have HS2 := Lib.hid S2; clear B2 F2 S2)
    | (refine wpList_boxB rfl 92 _ rfl (rdc a n c s) (by rfl) ?_; intro w1 B1 F1 S1; have HB1 := Lib.hid B1; have HF1 := Lib.hid F1; have HS1 := Lib.hid S1; clear B1 F1 S1))
  refine (HT.out w2 HF2.out).mono ?_
  rintro e w3 ⟨rfl, f3⟩
  have HB3 := Lib.hid (HB2.out.fr f3 (by simp))
  have HC3 := Lib.hid (HC2.out.fr f3 (by simp))
  have HF3 := Lib.hid (HF2.out.trans0 f3)
  clear f3
  dsimp only
  have hb12 : w.heap.size < w1.heap.size := by have := HS1.out; omega
  go_wp2_with (refine wpList_storeB rfl 92 _ _ rfl w.heap.size 0 (rdc a n c sr) (by rfl) (by rfl) 92 _ HB3.out (by show 0 + 3 ≤ 3; omega) (read_size a n c sr) (rdc_one _ _ _ _) ?_; intro w4 B4 F4 S4; rw [splice_all _ _ (by rfl)] at B4; have HB4 := Lib.hid B4; have HC4 := Lib.hid (HC3.out.fr F4 (by simp; omega)); have HF4 := Lib.hid (HF3.out.trans F4 (fun k hk hlt => by rw [List.mem_singleton.1 hk] at hlt; omega)); clear B4 F4 S4)
  have HR0 := Lib.hid (show LeasR2 w a n c l m sr w.heap.size w1.heap.size (.slice none 0 0) (.int .i64 (0 : Nat)) w4 from ⟨0, sr, [], Nat.zero_le _, rfl, rfl, HB4.out, HC4.out, RowW.nil _, by simp, HF4.out⟩)
  go_loopw [5, 13] (fun v i wr => LeasR2 w a n c l m sr w.heap.size w1.heap.size v i wr) (fun _ i _ => m - (intOf i).toNat)
  case atStart => exact HR0.out
  case round =>
    obtain ⟨j, sj, xs, hj, rfl, hlen, hB, hC, hO, hM, hF⟩ := hrel
    by_cases hlt : j < m
    · have jb : (j : Int) < (m : Int) := by omega
      obtain ⟨d, hd⟩ : ∃ d, m - j = d + 1 := ⟨m - j - 1, by omega⟩
      rw [hd, manyR] at hM
      have HI := Lib.hid (And.intro hB (And.intro hC (And.intro hO hF)))
      have HK := Lib.hid (fun (W : World) (f : Fr [] wr W) => HC.out W (hF.trans0 f) sj)
      have HLn := Lib.hid (And.intro hlen hd)
      have hbw : w.heap.size < wr.heap.size := hB.lt
      have hcw : w1.heap.size < wr.heap.size := hC.lt
      generalize rL l sj = r at *
      obtain ⟨x, at2, er2⟩ := r
      have HM := Lib.hid hM
      clear hB hC hO hF hM hlen hd HR0
      go_wp2_with (first
        | (have z := HG5.out; clear z; refine wpList_loadB rfl 92 _ rfl w.heap.size (by rfl) 92 _ _ HB5.out Try.underlying92 rfl (read_size a n c sj) ?_)
        | (refine wpList_allocZ rfl 124 rfl _ lease_zero9 ?_; intro w5 B5 F5 S5; have HG5 := Lib.hid B5; have HB5 := Lib.hid (HI.out.1.fr F5 (by simp)); have HF5 := Lib.hid F5; have HS5 := Lib.hid S5; clear B5 F5 S5))
      refine (HK.out w5 HF5.out).mono ?_
      rintro e w6 ⟨t, a5, c5, rfl, O, hx, f6⟩
      have HO6 := Lib.hid O
      have HG6 := Lib.hid (HG5.out.fr f6 (by simp))
      have HB6 := Lib.hid (HB5.out.fr f6 (by simp))
      have HF6 := Lib.hid (HF5.out.trans0 f6)
      have h56 : wr.heap.size < w5.heap.size := by have := HS5.out; omega
      have HX := Lib.hid hx
      clear O f6 hx
      dsimp only
      by_cases he : er2 = 0
      · subst he
        have ht : t = x := HX.out rfl
        subst ht
        have hbd : xs.length ≤ 1024 := by have := HLn.out.1; omega
        go_wp2_with (first
          | (have z := HW9.out; clear z; refine wpList_appW rfl _ _ 47 47 rfl w.heap.size 124 124 zLease 8 80 Try.underlying47 Try.underlying47 info_leaseZ rfl (by decide) _ xs (by rfl) HR9.out _ 1 (by rfl) 124 (t.cells a5 c5) HD9.out rfl (t.one3 a5 c5) t HW9.out (by simp only [maxLen]; omega) (by omega) (by have := HF9.out.size; omega) (fun w' cs t f h => LeaW.frT (fun g hg => HR9.out.blkOf hg) f (by decide) h) ?_; intro v10 w10 R10 F10 K10; have HR10 := Lib.hid R10; have HB10 := Lib.hid (HB9.out.fr F10 (HR9.out.ne HB9.out (by decide))); have HC10 := Lib.hid (HC9.out.fr F10 (HR9.out.ne HC9.out (by decide))); have HF10 := Lib.hid (HF9.out.trans F10 (fun k hk hlt => by have := (HR9.out.lt hk).1; omega)); clear R10 F10 K10)
          | (have z := HG8.out; clear z; refine wpList_buildSlice1 rfl 47 124 _ rfl zLease 8 80 Try.underlying47 info_leaseZ (by rfl) (by omega) (by omega) _ (t.cells a5 c5) (by rfl) (by rfl) (by rfl) ?_; intro w9 B9 F9 S9; have HD9 := Lib.hid B9; have HW9 := Lib.hid (show LeaW w.heap.size w9 (t.cells a5 c5) t from ⟨a5, c5, rfl, (HO8.out.fr0 F9).base (by omega)⟩); have HR9 := Lib.hid (HI.out.2.2.1.leaFr HI.out.1 (HF8.out.trans0 F9) (by decide) (by decide)); have HB9 := Lib.hid (HB8.out.fr F9 (by simp)); have HC9 := Lib.hid (HI.out.2.1.fr (HF8.out.trans0 F9) (by simp; omega)); have HF9 := Lib.hid (HI.out.2.2.2.trans (HF8.out.trans0 F9) (fun k hk hlt => by rw [List.mem_singleton.1 hk] at hlt; omega)); clear B9 F9 S9)
          | (have z := HG8.out; clear z; refine wpList_loadB rfl 124 _ rfl wr.heap.size (by rfl) 124 _ _ HG8.out Try.underlying124 rfl (lease_size3 t a5 c5) ?_)
          | (have z := HB7.out; clear z; refine wpList_storeB rfl 124 _ _ rfl wr.heap.size 0 (t.cells a5 c5) (by rfl) (by rfl) 124 _ HG7.out (by show 0 + 8 ≤ 8; omega) (lease_size3 t a5 c5) (t.one3 a5 c5) ?_; intro w8 B8 F8 S8; rw [splice_all _ _ (by rfl)] at B8; have HG8 := Lib.hid B8; have hb8 := HB7.out.fr F8 (by simp; omega); have c2 : w8.cell? ⟨w.heap.size, 2, none⟩ = some (.int .i64 0) := hb8.cellAt rfl; have HB8 := Lib.hid hb8; have HO8 := Lib.hid (HO7.out.fr F8 (fun g hg hm => by have := (HO7.out.lt hg).1; rw [List.mem_singleton.1 hm] at this; omega)); have HF8 := Lib.hid (HF7.out.trans F8 (fun k hk hlt => by rw [List.mem_singleton.1 hk] at hlt; omega)); clear B8 F8 S8 hb8)
          | (refine wpList_storeB rfl 92 _ _ rfl w.heap.size 0 (rdc a n c (at2, 0)) (by rfl) (by rfl) 92 _ HB6.out (by show 0 + 3 ≤ 3; omega) (read_size a n c (at2, 0)) (rdc_one _ _ _ _) ?_; intro w7 B7 F7 S7; rw [splice_all _ _ (by rfl)] at B7; have HB7 := Lib.hid B7; have HG7 := Lib.hid (HG6.out.fr F7 (by simp; omega)); have HO7 := Lib.hid (HO6.out.fr F7 (fun g hg hm => by have := (HO6.out.lt hg).1; rw [List.mem_singleton.1 hm] at this; omega)); have HF7 := Lib.hid ((HF6.out.ext (S := [w.heap.size])).trans1 F7); clear B7 F7 S7))
        have HR := Lib.hid (show LeasR2 w a n c l m sr w.heap.size w1.heap.size v10 (.int .i64 ((j + 1 : Nat) : Int)) w10 from ⟨j + 1, (at2, 0), xs ++ [t], by omega, rfl, by rw [List.length_append, HLn.out.1]; rfl, HB10.out, HC10.out, HR10.out, by rw [HM.out, if_pos rfl, show m - (j + 1) = d by have := HLn.out.2; omega]; simp, HF10.out⟩)
        go_roundw
        case rel => exact HR.out
        case measure => simp [intOf] <;> omega
      · have hb : (er2 != 0) = true := by simpa using he
        have HNE := Lib.hid he
        clear he
        go_wp2_with (first
          | (have z := HB8.out; clear z; refine wpList_loadB rfl 92 _ rfl w.heap.size (by rfl) 92 _ _ HB8.out Try.underlying92 rfl (read_size a n c (at2, er2)) ?_)
          | (have z := HB8.out; clear z; refine wpList_storeB rfl 92 _ _ rfl w1.heap.size 0 (rdc a n c (at2, er2)) (by rfl) (by rfl) 92 _ HC8.out (by show 0 + 3 ≤ 3; omega) (read_size a n c (at2, er2)) (rdc_one _ _ _ _) ?_; intro w9 B9 F9 S9; rw [splice_all _ _ (by rfl)] at B9; have HB9 := Lib.hid B9; have HF9 := Lib.hid ((HI.out.2.2.2.trans HF8.out (fun k hk hlt => by rw [List.mem_singleton.1 hk] at hlt; omega)).trans F9 (fun k hk hlt => by rw [List.mem_singleton.1 hk] at hlt; omega)); clear B9 F9 S9)
          | (have z := HB7.out; clear z; refine wpList_storeB rfl 124 _ _ rfl wr.heap.size 0 (t.cells a5 c5) (by rfl) (by rfl) 124 _ HG7.out (by show 0 + 8 ≤ 8; omega) (lease_size3 t a5 c5) (t.one3 a5 c5) ?_; intro w8 B8 F8 S8; have hb8 := HB7.out.fr F8 (by simp; omega); have c2 : w8.cell? ⟨w.heap.size, 2, none⟩ = some (.int .i64 er2) := hb8.cellAt rfl; have HB8 := Lib.hid hb8; have HF8 := Lib.hid (HF7.out.trans F8 (fun k hk hlt => by rw [List.mem_singleton.1 hk] at hlt; omega)); have HC8 := Lib.hid (HI.out.2.1.fr HF8.out (by simp; omega)); clear B8 F8 S8 hb8)
          | (refine wpList_storeB rfl 92 _ _ rfl w.heap.size 0 (rdc a n c (at2, er2)) (by rfl) (by rfl) 92 _ HB6.out (by show 0 + 3 ≤ 3; omega) (read_size a n c (at2, er2)) (rdc_one _ _ _ _) ?_; intro w7 B7 F7 S7; rw [splice_all _ _ (by rfl)] at B7; have HB7 := Lib.hid B7; have HG7 := Lib.hid (HG6.out.fr F7 (by simp; omega)); have HF7 := Lib.hid ((HF6.out.ext (S := [w.heap.size])).trans1 F7); clear B7 F7 S7))
        have hQ : Q = (xs, at2, er2) := by rw [← HQ.out, HM.out, if_neg HNE.out]; simp
        subst hQ
        exact bodyPost_ret (results_cellB_tmp rfl _ _ w1.heap.size 92 _ _ (by rfl) HB9.out Try.underlying92 rfl (read_size a n c (at2, er2))) rfl ⟨_, [], rfl, RowW.nil _, fun h => absurd h HNE.out, HF9.out⟩
    · have hjk : j = m := by omega
      subst hjk
      rw [Nat.sub_self, manyR] at hM
      have hQ : Q = (xs, sj) := by rw [← HQ.out, hM]; simp
      have HI := Lib.hid (And.intro hB (And.intro hC (And.intro hO hF)))
      subst hQ
      clear hB hC hO hF hM
      go_wp2_with (first
        | (refine wpList_loadB rfl 92 _ rfl w.heap.size (by rfl) 92 _ _ HI.out.1 Try.underlying92 rfl (read_size a n c sj) ?_)
        | (refine wpList_storeB rfl 92 _ _ rfl w1.heap.size 0 (rdc a n c sj) (by rfl) (by rfl) 92 _ HI.out.2.1 (by show 0 + 3 ≤ 3; omega) (read_size a n c sj) (rdc_one _ _ _ _) ?_; intro w7 B7 F7 S7; rw [splice_all _ _ (by rfl)] at B7; have HB7 := Lib.hid B7; have HO7 := Lib.hid (HI.out.2.2.1.leaFr HI.out.2.1 F7 (by decide) (by decide)); have HF7 := Lib.hid (HI.out.2.2.2.trans F7 (fun k hk hlt => by rw [List.mem_singleton.1 hk] at hlt; omega)); clear B7 F7 S7))
      refine bodyPost_ret (results_cellB_tmp rfl _ _ w1.heap.size 92 _ _ (by rfl) HB7.out Try.underlying92 rfl (read_size a n c sj)) rfl ⟨_, xs, rfl, ?_, fun _ => rfl, HF7.out⟩
      exact HO7.out
end Go.Fur
