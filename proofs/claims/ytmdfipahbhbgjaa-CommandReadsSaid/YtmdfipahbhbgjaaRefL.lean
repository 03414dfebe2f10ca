/- The document's leases as bytes: lease, leases, short: contracts. -/
import Derived.Test.YtmdfipahbhbgjaaRefT
import Derived.Test.YtmdfipahbhbgjaaEach
import Derived.Test.YtmdfipahbhbgjaaSame
namespace Go.Fur
open Go Go.RowKit Go.Proofs
set_option linter.unusedVariables false
set_option linter.unusedSimpArgs false
theorem layN_0 : layN 0 = [0] := by decide
theorem layN_1 : layN 1 = [1] := by decide
set_option maxRecDepth 100000 in
set_option maxHeartbeats 1000000 in
theorem leaseR_calls {w : World} {base : Nat} (hbase : base ≤ w.heap.size) (t : Lea) (a : Option Addr) (c : Nat) (hr : Rd w a (iv t.cores)) (hok : t.ok) (hlen : t.cores.length ≤ 1048576000) :
    Calls Try.prog 96 #[.agg (t.cells a c).toArray] w (ByE base t.enc w) := by
  have HR := Lib.hid hr
  have HQ := Lib.hid hok
  have hL := Lea.enc_length t
  have hq : ∀ x ∈ [t.task, t.queue, t.node], I64 x := fun x hx => hok.1 x (by simp at hx ⊢; rcases hx with h | h | h <;> simp [h])
  have hq2 : ∀ x ∈ [t.mem, t.since, t.until_], I64 x := fun x hx => hok.1 x (by simp at hx ⊢; rcases hx with h | h | h <;> simp [h])
  have HI := Lib.hid (And.intro hq hq2)
  clear hr hok hq hq2
  go_enter Try.func96, Try.ntmps96
  go_wp2_with (first
    | (refine wpList_boxB rfl 124 _ rfl (t.cells a c) (by rfl) ?_; intro w1 B1 F1 S1; have c0 : w1.cell? ⟨w.heap.size, 0, none⟩ = some (.int .i64 t.task) := B1.cellAt rfl; have c1 : w1.cell? ⟨w.heap.size, 1, none⟩ = some (.int .i64 t.queue) := B1.cellAt rfl; have c2 : w1.cell? ⟨w.heap.size, 2, none⟩ = some (.int .i64 t.node) := B1.cellAt rfl; have HB1 := Lib.hid B1; have HF1 := Lib.hid F1; have HS1 := Lib.hid S1; clear B1 F1 S1)
    | (refine wpList_buildN rfl 81 2 3 [(0, .tmp 5), (1, .tmp 7), (2, .tmp 9)] rfl [(0, .int .i64 t.task), (1, .int .i64 t.queue), (2, .int .i64 t.node)] (by rfl) _ (buildI_3 t.task t.queue t.node) ?_; intro w2 B2 F2 S2; have HB2 := Lib.hid B2; have HF2 := Lib.hid F2; clear B2 F2 S2))
  have G2 := Grow.nil (base := w.heap.size) (HF1.out.trans0 HF2.out)
  refine (put_calls (w := w2) (base := w.heap.size) G2.2.1.size (.slice none 0 0) [] G2.1 _ 3 3 [t.task, t.queue, t.node] rfl (HB2.out.rdA (by simp)) HI.out.1 (by simp)).mono ?_
  rintro e w3 ⟨v3, rfl, O3, F3, K3⟩
  have HG3 := Lib.hid (G2.put O3 F3 K3)
  have HB3 := Lib.hid ((HB1.out.fr HF2.out (by simp)).fr F3 (by simp))
  have e5 : w3.cell? ⟨w.heap.size, 3, none⟩ = some (.slice a t.cores.length c) := HB3.out.cellAt rfl
  clear G2 O3 F3 K3 c0 c1 c2
  rw [List.nil_append] at HG3
  go_wp2_with fail
  refine (numbers_calls (w := w3) (base := w.heap.size) HG3.out.2.1.size a _ c t.cores rfl (HR.out.fr0 HG3.out.2.1) HQ.out.2 (by omega)).mono ?_
  rintro e w4 ⟨v4, rfl, O4, F4⟩
  obtain ⟨a4, k4, rfl, _, _, R4⟩ := O4.form
  have HG4 := Lib.hid (HG3.out.fr0 F4)
  have HB4 := Lib.hid (HB3.out.fr F4 (by simp))
  have HR4 := Lib.hid R4
  have hl5 := intsE_length [t.task, t.queue, t.node]
  have hl6 := intsE_length [t.mem, t.since, t.until_]
  have hlt := listE_length t.cores
  simp only [List.length_cons, List.length_nil] at hl5 hl6
  clear O4 F4 R4 e5 HG3 HB3
  have HE := Lib.hid (show intsE [t.task, t.queue, t.node] ++ listE t.cores ++ intsE [t.mem, t.since, t.until_] ++ layN (if t.stop then 1 else 0) = t.enc from rfl)
  generalize intsE [t.task, t.queue, t.node] = b1 at *
  generalize listE t.cores = b2 at *
  have hz4 := HG4.out.2.1.size
  go_wp2_with (first
    | (refine wpList_appB rfl _ _ 37 37 rfl w.heap.size 5 5 .u8 1 Try.underlying37 Try.underlying37 info_byte _ b1.length (bv b1) (by rfl) HG4.out.1 a4 b2.length k4 (bv b2) (by rfl) HR4.out (by simp) (bv_one _) (by simp only [maxLen]; omega) (by omega) (by omega) ?_; intro v5 w5 O5 F5 K5 _; have HG5 := Lib.hid (HG4.out.app O5 F5 K5); have HB5 := Lib.hid (HB4.out.fr F5 (HG4.out.ne HB4.out (by decide))); have e6 : w5.cell? ⟨w.heap.size, 4, none⟩ = some (.int .i64 t.mem) := HB5.out.cellAt rfl; have e7 : w5.cell? ⟨w.heap.size, 5, none⟩ = some (.int .i64 t.since) := HB5.out.cellAt rfl; have e8 : w5.cell? ⟨w.heap.size, 6, none⟩ = some (.int .i64 t.until_) := HB5.out.cellAt rfl; clear O5 F5 K5)
    | (refine wpList_buildN rfl 81 2 3 [(0, .tmp 19), (1, .tmp 21), (2, .tmp 23)] rfl [(0, .int .i64 t.mem), (1, .int .i64 t.since), (2, .int .i64 t.until_)] (by rfl) _ (buildI_3 t.mem t.since t.until_) ?_; intro w6 B6 F6 S6; have HG6 := Lib.hid (HG5.out.fr0 F6); have HB56 := Lib.hid (HB5.out.fr F6 (by simp)); have HB6 := Lib.hid B6; clear B6 F6 S6))
  refine (put_calls (w := w6) (base := w.heap.size) HG6.out.2.1.size v5 (b1 ++ b2) HG6.out.1 _ 3 3 [t.mem, t.since, t.until_] rfl (HB6.out.rdA (HG5.out.new (Nat.le_refl _))) HI.out.2 (by rw [List.length_append]; omega)).mono ?_
  rintro e w7 ⟨v7, rfl, O7, F7, K7⟩
  have HG7 := Lib.hid (HG6.out.put O7 F7 K7)
  have HB7 := HB56.out.fr F7 (HG6.out.ne HB56.out (by decide))
  have hl7 : (intsE [t.mem, t.since, t.until_]).length ≤ 27 := by omega
  clear O7 F7 K7 e6 e7 e8
  cases hst : t.stop with
  | true =>
    have c9 : w7.cell? ⟨w.heap.size, 7, none⟩ = some (.bool true) := by rw [← hst]; exact HB7.cellAt rfl
    have HST := Lib.hid hst
    go_wp2_with (first
      | (have z := HB8.out; clear z; refine wpList_appB rfl _ _ 37 37 rfl w.heap.size 5 5 .u8 1 Try.underlying37 Try.underlying37 info_byte _ _ _ (by rfl) HG8.out.1 _ 1 1 [.int .u8 1] (by rfl) (by simpa using HB8.out.rd0 1) (by simp) (by simp [Value.oneCell']) (by simp only [List.length_append, maxLen]; omega) (by simp only [List.length_append]; omega) (by have := HG8.out.2.1.size; omega) ?_; intro v9 w9 O9 F9 K9 _; have HG9 := Lib.hid (HG8.out.app (cs := [1]) O9 F9 K9); clear O9 F9 K9)
      | (refine wpList_buildSlice1 rfl 37 5 _ rfl [.int .u8 0] 1 1 Try.underlying37 info_byteZ (by simp) (by omega) (by omega) _ [.int .u8 1] (by rfl) (by rfl) (by simp) ?_; intro w8 B8 F8 S8; have HG8 := Lib.hid (HG7.out.fr0 F8); have HB8 := Lib.hid B8; clear B8 F8 S8))
    go_ret
    have hg := HG9.out
    have he : b1 ++ b2 ++ intsE [t.mem, t.since, t.until_] ++ [1] = t.enc := by
      rw [← HE.out, hst]
      simp only [if_true, if_false, layN_0, layN_1, Bool.false_eq_true]
    rw [he] at hg
    exact hg.end hbase
  | false =>
    have c9 : w7.cell? ⟨w.heap.size, 7, none⟩ = some (.bool false) := by rw [← hst]; exact HB7.cellAt rfl
    have HST := Lib.hid hst
    go_wp2_with (first
      | (have z := HB8.out; clear z; refine wpList_appB rfl _ _ 37 37 rfl w.heap.size 5 5 .u8 1 Try.underlying37 Try.underlying37 info_byte _ _ _ (by rfl) HG8.out.1 _ 1 1 [.int .u8 0] (by rfl) (by simpa using HB8.out.rd0 1) (by simp) (by simp [Value.oneCell']) (by simp only [List.length_append, maxLen]; omega) (by simp only [List.length_append]; omega) (by have := HG8.out.2.1.size; omega) ?_; intro v9 w9 O9 F9 K9 _; have HG9 := Lib.hid (HG8.out.app (cs := [0]) O9 F9 K9); clear O9 F9 K9)
      | (refine wpList_buildSlice1 rfl 37 5 _ rfl [.int .u8 0] 1 1 Try.underlying37 info_byteZ (by simp) (by omega) (by omega) _ [.int .u8 0] (by rfl) (by rfl) (by simp) ?_; intro w8 B8 F8 S8; have HG8 := Lib.hid (HG7.out.fr0 F8); have HB8 := Lib.hid B8; clear B8 F8 S8))
    go_ret
    have hg := HG9.out
    have he : b1 ++ b2 ++ intsE [t.mem, t.since, t.until_] ++ [0] = t.enc := by
      rw [← HE.out, hst]
      simp only [if_true, if_false, layN_0, layN_1, Bool.false_eq_true]
    rw [he] at hg
    exact hg.end hbase
theorem RowA.fr0 {τ : Type} {EL : World → (Nat → Prop) → List Value → τ → Prop} {k : Nat} {w w' : World} {X : Nat → Prop} {a : Option Addr} {l : List τ} {css : List (List Value)} (h : RowA EL k w X a l css) (f : Fr [] w w')
    (hEL : ∀ W W' cs t, Fr [] W W' → EL W X cs t → EL W' X cs t) : RowA EL k w' X a l css :=
  ⟨h.rd.fr0 f, h.len, fun i cs t h1 h2 => ⟨(h.each i cs t h1 h2).1, hEL _ _ _ _ f (h.each i cs t h1 h2).2⟩⟩
theorem LeaAt.fr0 {W W' : World} {X : Nat → Prop} {cs : List Value} {t : Lea} (f : Fr [] W W') (h : LeaAt W X cs t) : LeaAt W' X cs t := by
  obtain ⟨a, c, h1, h2⟩ := h
  exact ⟨a, c, h1, h2.fr0 f⟩
/-- No blocks. -/
abbrev X0 : Nat → Prop := fun _ => False
theorem Lea.one3 (x : Lea) (a : Option Addr) (c : Nat) : ∀ v ∈ x.cells a c, v.oneCell' = true := by
  simp [Value.oneCell', Lea.cells]
theorem lease_size3 (x : Lea) (a : Option Addr) (c : Nat) : (Try.prog.info? 124).map (·.size) = some (x.cells a c).length := by
  have h : (x.cells a c).length = 8 := rfl
  have h2 : (Try.prog.info? 124).map (·.size) = some 8 := by kernel_rfl
  rw [h, h2]
def LeasesR (w : World) (l : List Lea) (hd : List Int) (x i : Value) (wr : World) : Prop := ∃ k : Nat, k ≤ l.length ∧ i = .int .i64 k ∧ Grow w.heap.size (.slice none 0 0) w x (hd ++ (l.take k).flatMap Lea.enc) wr
set_option maxRecDepth 100000 in
set_option maxHeartbeats 1000000 in
theorem leasesR_calls {w : World} {base : Nat} (hbase : base ≤ w.heap.size) (a : Option Addr) (c : Nat) (l : List Lea) (css : List (List Value)) (hrow : RowA LeaAt 8 w X0 a l css) (hok : ∀ t ∈ l, t.ok) (hr : 9 * ((l.map fun t => t.cores.length + 10).sum + 2) ≤ 9437184000) :
    Calls Try.prog 66 #[.slice a l.length c] w (ByE base (eachE Lea.enc l) w) := by
  have hll : ∀ l : List Lea, l.length ≤ (l.map fun t => t.cores.length + 10).sum := fun l => by
    induction l with
    | nil => simp
    | cons x l ih => simp only [List.length_cons, List.map_cons, List.sum_cons]; omega
  have hl0 := hll l
  have HA := Lib.hid hrow
  have HQ := Lib.hid hok
  have HC0 := Lib.hid (count_calls_ref (w := w) (base := w.heap.size) (Nat.le_refl _) l.length (by omega))
  clear hrow hok hll
  go_enter Try.func66, Try.ntmps66
  go_wp2_with fail
  refine HC0.out.mono ?_
  rintro e w0 ⟨u0, rfl, O0, F0⟩
  have HF0 := Lib.hid F0
  have HG0 := Lib.hid (show LeasesR w l (layN l.length) u0 (.int .i64 (0 : Nat)) w0 from ⟨0, Nat.zero_le _, rfl, by simpa using O0, F0, fun k hk => .inr (O0.lt hk).1⟩)
  have hl9 : (layN l.length).length ≤ 9 := by rw [layN_length]; have := kl_le l.length; omega
  have HL := Lib.hid (show layN l.length ++ l.flatMap Lea.enc = eachE Lea.enc l from rfl)
  generalize layN l.length = hd at *
  clear O0 F0
  go_wp2_with fail
  go_loopw [3, 11] (fun x i wr => LeasesR w l hd x i wr) (fun _ i _ => l.length - (intOf i).toNat)
  case atStart => exact HG0.out
  case round =>
    obtain ⟨k, hk, rfl, hG⟩ := hrel
    have HG := Lib.hid hG
    by_cases hlt : k < l.length
    · obtain ⟨t, ht⟩ : ∃ t, l[k]? = some t := ⟨l[k], List.getElem?_eq_getElem hlt⟩
      have kb : (k : Int) < (l.length : Int) := by omega
      obtain ⟨b, o, cs, rfl, hb, hx, hcl, ⟨a1, c1, rfl, ra⟩, hrg⟩ := (HA.out.fr0 hG.2.1 (fun _ _ _ _ f h => LeaAt.fr0 f h)).get (by decide) ht
      have htok := HQ.out t (List.mem_of_getElem? ht)
      have hsn : l.take (k + 1) = l.take k ++ [t] := by rw [List.take_add_one, ht]; rfl
      have hfl := flatMap_len Lea.enc (fun t => t.cores.length) (l.take k) (fun x _ => by have := Lea.enc_length x; omega)
      have hst := sum_take (fun t : Lea => t.cores.length + 10) l k t ht
      have hel := Lea.enc_length t
      have hbs : w.heap.size ≤ wr.heap.size := hG.2.1.size
      have hcs : t.cores.length ≤ 1048576000 := by omega
      have hbl : (hd ++ (l.take k).flatMap Lea.enc).length + t.enc.length ≤ 70368744177664 := by rw [List.length_append]; omega
      have HN := Lib.hid (show hd ++ (l.take k).flatMap Lea.enc ++ t.enc = hd ++ (l.take (k + 1)).flatMap Lea.enc by rw [hsn, List.flatMap_append, List.append_assoc]; simp)
      have HRG := Lib.hid hrg
      have HRA := Lib.hid ra
      have HTO := Lib.hid htok
      clear hG hsn ht hel hfl hst hrg ra htok hcl
      generalize hd ++ (l.take k).flatMap Lea.enc = B at *
      go_wp2_with (first
        | (have z := HC2.out; clear z; refine wpList_loadB rfl 124 _ rfl wr.heap.size (by rfl) 124 _ _ HC2.out Try.underlying124 rfl (lease_size3 t a1 c1) ?_)
        | (have z := HC1.out; clear z; refine wpList_storeB rfl 124 _ _ rfl wr.heap.size 0 (t.cells a1 c1) (by rfl) (by rfl) 124 _ HC1.out (by show 0 + 8 ≤ 8; omega) (lease_size3 t a1 c1) (t.one3 a1 c1) ?_; intro w3 B3 F3 S3; rw [splice_all _ _ (by rfl)] at B3; have HC2 := Lib.hid B3; have HF3 := Lib.hid (HF2.out.trans F3 (fun k hk hlt => by rw [List.mem_singleton.1 hk] at hlt; omega)); clear B3 F3 S3)
        | (refine wpList_load_mid rfl 124 _ rfl b (o + k * 8) rfl (t.cells a1 c1) _ HRG.out Try.underlying124 rfl (lease_size3 t a1 c1) ?_)
        | (refine wpList_allocZ rfl 124 rfl _ lease_zero ?_; intro w2 B2 F2 S2; have HC1 := Lib.hid B2; have HF2 := Lib.hid F2; clear B2 F2 S2))
      refine (leaseR_calls (w := w3) (base := w.heap.size) (by have := HF3.out.size; omega) t a1 c1 (HRA.out.rd.fr0 HF3.out) HTO.out hcs).mono ?_
      rintro e w4 ⟨u, rfl, O4, F4⟩
      obtain ⟨a4, c4, rfl, g1, g2, g3⟩ := O4.form
      have HG4 := Lib.hid ((HG.out.fr0 HF3.out).fr0 F4)
      have HR4 := Lib.hid g3
      have hz4 := HG4.out.2.1.size
      clear O4 F4 g1 g2 g3
      generalize t.enc = E at *
      go_wp2_with (refine wpList_appB rfl _ _ 37 37 rfl w.heap.size 5 5 .u8 1 Try.underlying37 Try.underlying37 info_byte _ B.length (bv B) (by rfl) HG4.out.1 a4 E.length c4 (bv E) (by rfl) HR4.out (by simp) (bv_one _) (by simp only [maxLen]; omega) (by omega) (by omega) ?_; intro v2 w5 O2 F2 K2 _; have HG5 := Lib.hid (HG4.out.app O2 F2 K2); clear O2 F2 K2)
      have HR := Lib.hid (show LeasesR w l hd v2 (.int .i64 ((k + 1 : Nat) : Int)) w5 from ⟨k + 1, by omega, rfl, by rw [← HN.out]; exact HG5.out⟩)
      go_roundw
      case rel => exact HR.out
      case measure => simp [intOf] <;> omega
    · have hkl : k = l.length := by omega
      subst hkl
      rw [List.take_length, HL.out] at HG
      go_wp2_with fail
      go_ret
      exact HG.out.end hbase
def ShortR (w : World) (l : List Lea) (i : Value) (wr : World) : Prop := ∃ k : Nat, k ≤ l.length ∧ i = .int .i64 k ∧ (∀ t ∈ l.take k, t.cores.length ≤ 1024) ∧ Fr [] w wr
def shortL (l : List Lea) : Bool := decide ((∀ t ∈ l, t.cores.length ≤ 1024) ∧ l.length ≤ 1024)
set_option maxRecDepth 100000 in
set_option maxHeartbeats 1000000 in
theorem short_calls {w : World} (a : Option Addr) (c : Nat) (l : List Lea) (css : List (List Value)) (hrow : RowA LeaAt 8 w X0 a l css) (hl : l.length ≤ 9437184000) :
    Calls Try.prog 64 #[.slice a l.length c] w (BoolE (shortL l) w) := by
  have HA := Lib.hid hrow
  have HB := Lib.hid (show shortL l = decide ((∀ t ∈ l, t.cores.length ≤ 1024) ∧ l.length ≤ 1024) from rfl)
  generalize shortL l = sb at *
  clear hrow
  go_enter Try.func64, Try.ntmps64
  go_wp2_with fail
  go_loopw [7] (fun i wr => ShortR w l i wr) (fun i _ => l.length - (intOf i).toNat)
  case atStart => exact ⟨0, Nat.zero_le _, rfl, by simp, Fr.refl _ _⟩
  case round =>
    obtain ⟨k, hk, rfl, hA, hF⟩ := hrel
    by_cases hlt : k < l.length
    · obtain ⟨t, ht⟩ : ∃ t, l[k]? = some t := ⟨l[k], List.getElem?_eq_getElem hlt⟩
      have kb : (k : Int) < (l.length : Int) := by omega
      obtain ⟨b, o, cs, rfl, hb, hx, hcl, ⟨a1, c1, rfl, ra⟩, hrg⟩ := (HA.out.fr0 hF (fun _ _ _ _ f h => LeaAt.fr0 f h)).get (by decide) ht
      have hsn : l.take (k + 1) = l.take k ++ [t] := by rw [List.take_add_one, ht]; rfl
      have HRG := Lib.hid hrg
      have HH := Lib.hid (And.intro hA hF)
      have HT := Lib.hid (And.intro (List.mem_of_getElem? ht) hsn)
      clear hA hF hrg ra hcl ht hsn
      by_cases h1 : 1024 < t.cores.length
      · have h1b : (1024 : Int) < (t.cores.length : Int) := by omega
        go_wp2_with (first
          | (have z := HC1.out; clear z; refine wpList_storeB rfl 124 _ _ rfl wr.heap.size 0 (t.cells a1 c1) (by rfl) (by rfl) 124 _ HC1.out (by show 0 + 8 ≤ 8; omega) (lease_size3 t a1 c1) (t.one3 a1 c1) ?_; intro w3 B3 F3 S3; rw [splice_all _ _ (by rfl)] at B3; have c3 : w3.cell? ⟨wr.heap.size, 3, none⟩ = some (.slice a1 t.cores.length c1) := B3.cellAt rfl; have HF3 := Lib.hid (HF2.out.trans F3 (fun k hk hlt => by rw [List.mem_singleton.1 hk] at hlt; omega)); clear B3 F3 S3)
          | (refine wpList_load_mid rfl 124 _ rfl b (o + k * 8) rfl (t.cells a1 c1) _ HRG.out Try.underlying124 rfl (lease_size3 t a1 c1) ?_)
          | (refine wpList_allocZ rfl 124 rfl _ lease_zero ?_; intro w2 B2 F2 S2; have HC1 := Lib.hid B2; have HF2 := Lib.hid F2; clear B2 F2 S2))
        go_ret
        refine ⟨?_, HH.out.2.trans0 HF3.out⟩
        rw [HB.out, decide_eq_false (fun h => by have := h.1 t HT.out.1; omega)]
        rfl
      · have h1b : ¬ (1024 : Int) < (t.cores.length : Int) := by omega
        go_wp2_with (first
          | (have z := HC1.out; clear z; refine wpList_storeB rfl 124 _ _ rfl wr.heap.size 0 (t.cells a1 c1) (by rfl) (by rfl) 124 _ HC1.out (by show 0 + 8 ≤ 8; omega) (lease_size3 t a1 c1) (t.one3 a1 c1) ?_; intro w3 B3 F3 S3; rw [splice_all _ _ (by rfl)] at B3; have c3 : w3.cell? ⟨wr.heap.size, 3, none⟩ = some (.slice a1 t.cores.length c1) := B3.cellAt rfl; have HF3 := Lib.hid (HF2.out.trans F3 (fun k hk hlt => by rw [List.mem_singleton.1 hk] at hlt; omega)); clear B3 F3 S3)
          | (refine wpList_load_mid rfl 124 _ rfl b (o + k * 8) rfl (t.cells a1 c1) _ HRG.out Try.underlying124 rfl (lease_size3 t a1 c1) ?_)
          | (refine wpList_allocZ rfl 124 rfl _ lease_zero ?_; intro w2 B2 F2 S2; have HC1 := Lib.hid B2; have HF2 := Lib.hid F2; clear B2 F2 S2))
        have HR := Lib.hid (show ShortR w l (.int .i64 ((k + 1 : Nat) : Int)) w3 from ⟨k + 1, by omega, rfl, by
          rw [HT.out.2]
          intro x hx
          rcases List.mem_append.1 hx with hx | hx
          · exact HH.out.1 x hx
          · rw [List.mem_singleton.1 hx]; omega, HH.out.2.trans0 HF3.out⟩)
        go_roundw
        case rel => exact HR.out
        case measure => simp [intOf] <;> omega
    · have hkl : k = l.length := by omega
      subst hkl
      rw [List.take_length] at hA
      have HH := Lib.hid (And.intro hA hF)
      have e : sb = decide ((l.length : Int) ≤ 1024) := by
        rw [HB.out]
        exact decide_eq_decide.2 ⟨fun h => by omega, fun h => ⟨hA, by omega⟩⟩
      clear hA hF
      have HSB := Lib.hid e
      go_wp2_with fail
      go_ret
      exact ⟨by rw [HSB.out]; rfl, HH.out.2⟩
end Go.Fur
