/- The document's State: contract. -/
import Derived.Test.YtmdfipahbhbgjaaSta
import Derived.Test.YtmdfipahbhbgjaaRefL
import Derived.Test.YtmdfipahbhbgjaaApart10
import Derived.Test.YtmdfipahbhbgjaaEnt10
namespace Go.Fur
open Go Go.RowKit Go.Proofs Go.Proofs.YtmdfipahbhbgjaaW.PrintWords
set_option linter.unusedVariables false
set_option linter.unusedSimpArgs false
def tasLong (t : Tas) : Bool := decide (1024 < t.tickets.length)
def Sta.lg0 (x : Sta) : Bool := decide (1024 < x.queues.length) || (decide (1024 < x.nodes.length) || (decide (1024 < x.tasks.length) || (decide (1024 < x.hungry.length) || !shortL x.leases)))
def Sta.lg (x : Sta) : Bool := x.lg0 || x.tasks.any tasLong
theorem fold_same {τ : Type} : ∀ (l : List τ) (e : Int), l.foldl (fun e t => sameEr t e) e = e
  | [], _ => rfl
  | t :: l, e => by rw [List.foldl_cons]; exact fold_same l e
theorem each_same {τ : Type} (l : List τ) (e : Int) : eachEr sameEr l e = cntE l.length e := fold_same l _
theorem foldT_3 : ∀ l : List Tas, l.foldl (fun e t => tasEr t e) 3 = 3
  | [] => rfl
  | t :: l => by rw [List.foldl_cons]; unfold tasEr; rw [cnt_3]; exact foldT_3 l
theorem foldT : ∀ (l : List Tas) (e : Int), l.foldl (fun e t => tasEr t e) e = if l.any tasLong = true then 3 else e
  | [], e => by simp
  | t :: l, e => by
    rw [List.foldl_cons, List.any_cons]
    by_cases h : 1024 < t.tickets.length
    · have e1 : tasEr t e = 3 := by unfold tasEr cntE; rw [if_pos h]
      have e2 : tasLong t = true := decide_eq_true h
      rw [e1, foldT_3, e2, Bool.true_or, if_pos rfl]
    · have e1 : tasEr t e = e := by unfold tasEr cntE; rw [if_neg h]
      have e2 : tasLong t = false := decide_eq_false h
      rw [e1, foldT l e, e2, Bool.false_or]
theorem Sta.er_is (x : Sta) : x.er = if x.lg = true then 3 else 0 := by
  unfold Sta.er
  rw [each_same, each_short, each_same, each_same]
  unfold eachEr
  rw [foldT]
  unfold Sta.lg Sta.lg0 cntE
  by_cases h1 : 1024 < x.queues.length <;> by_cases h2 : 1024 < x.nodes.length <;> by_cases h3 : 1024 < x.tasks.length <;> by_cases h4 : 1024 < x.hungry.length <;> cases shortL x.leases <;> cases x.tasks.any tasLong <;> simp [h1, h2, h3, h4]
theorem tEnc_len (t : Tas) : (Tas.enc t).length ≤ 9 * (t.tickets.length + 10) := by have := Tas.enc_length t; omega
theorem sum_mem {τ : Type} (f : τ → Nat) : ∀ (l : List τ) (t : τ), t ∈ l → f t ≤ (l.map f).sum
  | [], _, h => by cases h
  | x :: l, t, h => by
    simp only [List.map_cons, List.sum_cons]
    rcases List.mem_cons.1 h with rfl | h
    · omega
    · have := sum_mem f l t h; omega
def LongR (w : World) (x : Sta) (v i : Value) (wr : World) : Prop := ∃ k : Nat, k ≤ x.tasks.length ∧ i = .int .i64 k ∧ ∃ b : Bool, v = .bool b ∧ b = (x.lg0 || (x.tasks.take k).any tasLong) ∧ Fr [] w wr
def GrowR {τ : Type} (enc : τ → List Int) (w : World) (B : List Int) (l : List τ) (cells : List Value) (v i : Value) (wr : World) : Prop :=
  ∃ k : Nat, k ≤ l.length ∧ i = .int .i64 k ∧ Grow w.heap.size (.slice none 0 0) w v (B ++ layN l.length ++ (l.take k).flatMap enc) wr ∧ Blk wr w.heap.size 58 cells
theorem eachE_eq {τ : Type} (enc : τ → List Int) (B : List Int) (l : List τ) : B ++ layN l.length ++ (l.take l.length).flatMap enc = B ++ eachE enc l := by
  rw [List.take_length, List.append_assoc]
  rfl
set_option maxRecDepth 100000 in
set_option maxHeartbeats 8000000 in
theorem stateR_calls {w : World} {base : Nat} (hbase : base ≤ w.heap.size) (x : Sta) (s : StaP) (hr : StaAt w X0 x s) (hok : x.ok) (hlen : x.bulk ≤ 1048576) :
    Calls Try.prog 28 #[.agg (x.cells s).toArray] w (EncE base (encS x) w) := by
  have HQ := Lib.hid hok
  have HR := Lib.hid hr
  have hs10 := sum_10 x.leases
  have hs1 := len_1 x.leases
  have ht10 := sum_10T x.tasks
  have ht1 := len_1T x.tasks
  have hen : encS x = if x.lg = true then ([], 3) else (x.enc, 0) := by
    show (if x.er = 0 then (x.enc, 0) else ([], x.er)) = _
    rw [x.er_is]
    cases x.lg <;> rfl
  have HEN := Lib.hid hen
  have hlg : x.lg0 = (decide (1024 < x.queues.length) || (decide (1024 < x.nodes.length) || (decide (1024 < x.tasks.length) || (decide (1024 < x.hungry.length) || !shortL x.leases)))) := rfl
  unfold Sta.bulk at hlen
  clear hok hr hen
  by_cases h1 : 1024 < x.queues.length
  · have HL0 := Lib.hid (show x.lg0 = true by rw [hlg, decide_eq_true h1]; rfl)
    have h1b : (1024 : Int) < (x.queues.length : Int) := by omega
    go_enter Try.func28, Try.ntmps28
    go_wp2_with (refine wpList_boxB rfl 58 _ rfl (x.cells s) (by rfl) ?_; intro w1 B1 F1 S1; have c3 : w1.cell? ⟨w.heap.size, 3, none⟩ = some (.slice s.a1 x.queues.length s.c1) := B1.cellAt rfl; have c4 : w1.cell? ⟨w.heap.size, 4, none⟩ = some (.slice s.a2 x.nodes.length s.c2) := B1.cellAt rfl; have c5 : w1.cell? ⟨w.heap.size, 5, none⟩ = some (.slice s.a3 x.tasks.length s.c3) := B1.cellAt rfl; have c6 : w1.cell? ⟨w.heap.size, 6, none⟩ = some (.slice s.a4 x.leases.length s.c4) := B1.cellAt rfl; have c7 : w1.cell? ⟨w.heap.size, 7, none⟩ = some (.slice s.a5 x.hungry.length s.c5) := B1.cellAt rfl; have HF1 := Lib.hid F1; have HB1 := Lib.hid B1; have HS1 := Lib.hid S1; clear B1 F1 S1)
    have HR1 := Lib.hid (HR.out.fr0 HF1.out)
    go_loopw [4, 47] (fun v i wr => LongR w1 x v i wr) (fun _ i _ => x.tasks.length - (intOf i).toNat)
    case atStart => exact ⟨0, Nat.zero_le _, rfl, _, rfl, by rw [List.take_zero]; simp [HL0.out], Fr.refl _ _⟩
    case round =>
      obtain ⟨k, hk, rfl, b, rfl, hb, hF⟩ := hrel
      rcases Nat.lt_or_ge k x.tasks.length with hlt | hge
      · obtain ⟨t, ht⟩ : ∃ t, x.tasks[k]? = some t := ⟨x.tasks[k], List.getElem?_eq_getElem hlt⟩
        have kb : (k : Int) < (x.tasks.length : Int) := by omega
        obtain ⟨css, hrow⟩ := (HR1.out.fr0 hF).t
        obtain ⟨b0, o0, cs, ha0, hb0, hx0, hcl, ⟨a1, c1, rfl, ra⟩, hrg⟩ := hrow.get (by decide) ht
        have hsn : x.tasks.take (k + 1) = x.tasks.take k ++ [t] := by rw [List.take_add_one, ht]; rfl
        have HRG := Lib.hid hrg
        have HH := Lib.hid (And.intro hb (And.intro hF hsn))
        have HA0 := Lib.hid ha0
        clear hF hrg ra hcl ht hsn hb hrow
        rw [HA0.out]
        cases b
        · go_wp2_with (first
            | (have z := HC1.out; clear z; refine wpList_storeB rfl 30 _ _ rfl wr.heap.size 0 (t.cells a1 c1) (by rfl) (by rfl) 30 _ HC1.out (by show 0 + 7 ≤ 7; omega) (task_size3 t a1 c1) (t.one3 a1 c1) ?_; intro w3 B3 F3 S3; rw [splice_all _ _ (by rfl)] at B3; have e3 : w3.cell? ⟨wr.heap.size, 5, none⟩ = some (.slice a1 t.tickets.length c1) := B3.cellAt rfl; have HF3 := Lib.hid (HF2.out.trans F3 (fun k hk hlt => by rw [List.mem_singleton.1 hk] at hlt; omega)); clear B3 F3 S3)
            | (refine wpList_load_mid rfl 30 _ rfl b0 (o0 + k * 7) rfl (t.cells a1 c1) _ HRG.out Try.underlying30 rfl (task_size3 t a1 c1) ?_)
            | (refine wpList_allocZ rfl 30 rfl _ task_zero4 ?_; intro w2 B2 F2 S2; have HC1 := Lib.hid B2; have HF2 := Lib.hid F2; clear B2 F2 S2))
          have HR := Lib.hid (show LongR w1 x (.bool (decide ((1024 : Int) < (t.tickets.length : Int)))) (.int .i64 ((k + 1 : Nat) : Int)) w3 from ⟨k + 1, by omega, rfl, _, rfl, by
            rw [HH.out.2.2, List.any_append, ← Bool.or_assoc, ← HH.out.1]
            simp [tasLong]
            omega, HH.out.2.1.trans0 HF3.out⟩)
          go_roundw
          case rel => exact HR.out
          case measure => simp [intOf] <;> omega
        · go_wp2_with (first
            | (have z := HC1.out; clear z; refine wpList_storeB rfl 30 _ _ rfl wr.heap.size 0 (t.cells a1 c1) (by rfl) (by rfl) 30 _ HC1.out (by show 0 + 7 ≤ 7; omega) (task_size3 t a1 c1) (t.one3 a1 c1) ?_; intro w3 B3 F3 S3; have HF3 := Lib.hid (HF2.out.trans F3 (fun k hk hlt => by rw [List.mem_singleton.1 hk] at hlt; omega)); clear B3 F3 S3)
            | (refine wpList_load_mid rfl 30 _ rfl b0 (o0 + k * 7) rfl (t.cells a1 c1) _ HRG.out Try.underlying30 rfl (task_size3 t a1 c1) ?_)
            | (refine wpList_allocZ rfl 30 rfl _ task_zero4 ?_; intro w2 B2 F2 S2; have HC1 := Lib.hid B2; have HF2 := Lib.hid F2; clear B2 F2 S2))
          have HR := Lib.hid (show LongR w1 x (.bool true) (.int .i64 ((k + 1 : Nat) : Int)) w3 from ⟨k + 1, by omega, rfl, _, rfl, by
            rw [HH.out.2.2, List.any_append, ← Bool.or_assoc, ← HH.out.1]
            simp, HH.out.2.1.trans0 HF3.out⟩)
          go_roundw
          case rel => exact HR.out
          case measure => simp [intOf] <;> omega
      have hkl : k = x.tasks.length := by omega
      subst hkl
      have hb2 : b = x.lg := by rw [hb, List.take_length]; rfl
      have HF0 := Lib.hid hF
      clear hF hb hge
      cases hbv : b
      rotate_left
      · have HBV := Lib.hid (show x.lg = true by rw [← hb2]; exact hbv)
        clear hb2
        subst hbv
        go_wp2_with fail
        go_ret2
        rw [HEN.out, HBV.out]
        exact ⟨_, rfl, Own.nil _ _ _ _, HF1.out.trans0 HF0.out⟩
      have HBV := Lib.hid (show x.lg = false by rw [← hb2]; exact hbv)
      clear hb2
      subst hbv
      have := HBV.out
      unfold Sta.lg at this
      rw [HL0.out] at this
      cases this
  · by_cases h2 : 1024 < x.nodes.length
    · have HL0 := Lib.hid (show x.lg0 = true by rw [hlg, decide_eq_false h1, decide_eq_true h2]; rfl)
      have h1b : ¬ (1024 : Int) < (x.queues.length : Int) := by omega
      have h2b : (1024 : Int) < (x.nodes.length : Int) := by omega
      go_enter Try.func28, Try.ntmps28
      go_wp2_with (refine wpList_boxB rfl 58 _ rfl (x.cells s) (by rfl) ?_; intro w1 B1 F1 S1; have c3 : w1.cell? ⟨w.heap.size, 3, none⟩ = some (.slice s.a1 x.queues.length s.c1) := B1.cellAt rfl; have c4 : w1.cell? ⟨w.heap.size, 4, none⟩ = some (.slice s.a2 x.nodes.length s.c2) := B1.cellAt rfl; have c5 : w1.cell? ⟨w.heap.size, 5, none⟩ = some (.slice s.a3 x.tasks.length s.c3) := B1.cellAt rfl; have c6 : w1.cell? ⟨w.heap.size, 6, none⟩ = some (.slice s.a4 x.leases.length s.c4) := B1.cellAt rfl; have c7 : w1.cell? ⟨w.heap.size, 7, none⟩ = some (.slice s.a5 x.hungry.length s.c5) := B1.cellAt rfl; have HF1 := Lib.hid F1; have HB1 := Lib.hid B1; have HS1 := Lib.hid S1; clear B1 F1 S1)
      have HR1 := Lib.hid (HR.out.fr0 HF1.out)
      go_loopw [4, 47] (fun v i wr => LongR w1 x v i wr) (fun _ i _ => x.tasks.length - (intOf i).toNat)
      case atStart => exact ⟨0, Nat.zero_le _, rfl, _, rfl, by rw [List.take_zero]; simp [HL0.out], Fr.refl _ _⟩
      case round =>
        obtain ⟨k, hk, rfl, b, rfl, hb, hF⟩ := hrel
        rcases Nat.lt_or_ge k x.tasks.length with hlt | hge
        · obtain ⟨t, ht⟩ : ∃ t, x.tasks[k]? = some t := ⟨x.tasks[k], List.getElem?_eq_getElem hlt⟩
          have kb : (k : Int) < (x.tasks.length : Int) := by omega
          obtain ⟨css, hrow⟩ := (HR1.out.fr0 hF).t
          obtain ⟨b0, o0, cs, ha0, hb0, hx0, hcl, ⟨a1, c1, rfl, ra⟩, hrg⟩ := hrow.get (by decide) ht
          have hsn : x.tasks.take (k + 1) = x.tasks.take k ++ [t] := by rw [List.take_add_one, ht]; rfl
          have HRG := Lib.hid hrg
          have HH := Lib.hid (And.intro hb (And.intro hF hsn))
          have HA0 := Lib.hid ha0
          clear hF hrg ra hcl ht hsn hb hrow
          rw [HA0.out]
          cases b
          · go_wp2_with (first
              | (have z := HC1.out; clear z; refine wpList_storeB rfl 30 _ _ rfl wr.heap.size 0 (t.cells a1 c1) (by rfl) (by rfl) 30 _ HC1.out (by show 0 + 7 ≤ 7; omega) (task_size3 t a1 c1) (t.one3 a1 c1) ?_; intro w3 B3 F3 S3; rw [splice_all _ _ (by rfl)] at B3; have e3 : w3.cell? ⟨wr.heap.size, 5, none⟩ = some (.slice a1 t.tickets.length c1) := B3.cellAt rfl; have HF3 := Lib.hid (HF2.out.trans F3 (fun k hk hlt => by rw [List.mem_singleton.1 hk] at hlt; omega)); clear B3 F3 S3)
              | (refine wpList_load_mid rfl 30 _ rfl b0 (o0 + k * 7) rfl (t.cells a1 c1) _ HRG.out Try.underlying30 rfl (task_size3 t a1 c1) ?_)
              | (refine wpList_allocZ rfl 30 rfl _ task_zero4 ?_; intro w2 B2 F2 S2; have HC1 := Lib.hid B2; have HF2 := Lib.hid F2; clear B2 F2 S2))
            have HR := Lib.hid (show LongR w1 x (.bool (decide ((1024 : Int) < (t.tickets.length : Int)))) (.int .i64 ((k + 1 : Nat) : Int)) w3 from ⟨k + 1, by omega, rfl, _, rfl, by
              rw [HH.out.2.2, List.any_append, ← Bool.or_assoc, ← HH.out.1]
              simp [tasLong]
              omega, HH.out.2.1.trans0 HF3.out⟩)
            go_roundw
            case rel => exact HR.out
            case measure => simp [intOf] <;> omega
          · go_wp2_with (first
              | (have z := HC1.out; clear z; refine wpList_storeB rfl 30 _ _ rfl wr.heap.size 0 (t.cells a1 c1) (by rfl) (by rfl) 30 _ HC1.out (by show 0 + 7 ≤ 7; omega) (task_size3 t a1 c1) (t.one3 a1 c1) ?_; intro w3 B3 F3 S3; have HF3 := Lib.hid (HF2.out.trans F3 (fun k hk hlt => by rw [List.mem_singleton.1 hk] at hlt; omega)); clear B3 F3 S3)
              | (refine wpList_load_mid rfl 30 _ rfl b0 (o0 + k * 7) rfl (t.cells a1 c1) _ HRG.out Try.underlying30 rfl (task_size3 t a1 c1) ?_)
              | (refine wpList_allocZ rfl 30 rfl _ task_zero4 ?_; intro w2 B2 F2 S2; have HC1 := Lib.hid B2; have HF2 := Lib.hid F2; clear B2 F2 S2))
            have HR := Lib.hid (show LongR w1 x (.bool true) (.int .i64 ((k + 1 : Nat) : Int)) w3 from ⟨k + 1, by omega, rfl, _, rfl, by
              rw [HH.out.2.2, List.any_append, ← Bool.or_assoc, ← HH.out.1]
              simp, HH.out.2.1.trans0 HF3.out⟩)
            go_roundw
            case rel => exact HR.out
            case measure => simp [intOf] <;> omega
        have hkl : k = x.tasks.length := by omega
        subst hkl
        have hb2 : b = x.lg := by rw [hb, List.take_length]; rfl
        have HF0 := Lib.hid hF
        clear hF hb hge
        cases hbv : b
        rotate_left
        · have HBV := Lib.hid (show x.lg = true by rw [← hb2]; exact hbv)
          clear hb2
          subst hbv
          go_wp2_with fail
          go_ret2
          rw [HEN.out, HBV.out]
          exact ⟨_, rfl, Own.nil _ _ _ _, HF1.out.trans0 HF0.out⟩
        have HBV := Lib.hid (show x.lg = false by rw [← hb2]; exact hbv)
        clear hb2
        subst hbv
        have := HBV.out
        unfold Sta.lg at this
        rw [HL0.out] at this
        cases this
    · by_cases h3 : 1024 < x.tasks.length
      · have HL0 := Lib.hid (show x.lg0 = true by rw [hlg, decide_eq_false h1, decide_eq_false h2, decide_eq_true h3]; rfl)
        have h1b : ¬ (1024 : Int) < (x.queues.length : Int) := by omega
        have h2b : ¬ (1024 : Int) < (x.nodes.length : Int) := by omega
        have h3b : (1024 : Int) < (x.tasks.length : Int) := by omega
        go_enter Try.func28, Try.ntmps28
        go_wp2_with (refine wpList_boxB rfl 58 _ rfl (x.cells s) (by rfl) ?_; intro w1 B1 F1 S1; have c3 : w1.cell? ⟨w.heap.size, 3, none⟩ = some (.slice s.a1 x.queues.length s.c1) := B1.cellAt rfl; have c4 : w1.cell? ⟨w.heap.size, 4, none⟩ = some (.slice s.a2 x.nodes.length s.c2) := B1.cellAt rfl; have c5 : w1.cell? ⟨w.heap.size, 5, none⟩ = some (.slice s.a3 x.tasks.length s.c3) := B1.cellAt rfl; have c6 : w1.cell? ⟨w.heap.size, 6, none⟩ = some (.slice s.a4 x.leases.length s.c4) := B1.cellAt rfl; have c7 : w1.cell? ⟨w.heap.size, 7, none⟩ = some (.slice s.a5 x.hungry.length s.c5) := B1.cellAt rfl; have HF1 := Lib.hid F1; have HB1 := Lib.hid B1; have HS1 := Lib.hid S1; clear B1 F1 S1)
        have HR1 := Lib.hid (HR.out.fr0 HF1.out)
        go_loopw [4, 47] (fun v i wr => LongR w1 x v i wr) (fun _ i _ => x.tasks.length - (intOf i).toNat)
        case atStart => exact ⟨0, Nat.zero_le _, rfl, _, rfl, by rw [List.take_zero]; simp [HL0.out], Fr.refl _ _⟩
        case round =>
          obtain ⟨k, hk, rfl, b, rfl, hb, hF⟩ := hrel
          rcases Nat.lt_or_ge k x.tasks.length with hlt | hge
          · obtain ⟨t, ht⟩ : ∃ t, x.tasks[k]? = some t := ⟨x.tasks[k], List.getElem?_eq_getElem hlt⟩
            have kb : (k : Int) < (x.tasks.length : Int) := by omega
            obtain ⟨css, hrow⟩ := (HR1.out.fr0 hF).t
            obtain ⟨b0, o0, cs, ha0, hb0, hx0, hcl, ⟨a1, c1, rfl, ra⟩, hrg⟩ := hrow.get (by decide) ht
            have hsn : x.tasks.take (k + 1) = x.tasks.take k ++ [t] := by rw [List.take_add_one, ht]; rfl
            have HRG := Lib.hid hrg
            have HH := Lib.hid (And.intro hb (And.intro hF hsn))
            have HA0 := Lib.hid ha0
            clear hF hrg ra hcl ht hsn hb hrow
            rw [HA0.out]
            cases b
            · go_wp2_with (first
                | (have z := HC1.out; clear z; refine wpList_storeB rfl 30 _ _ rfl wr.heap.size 0 (t.cells a1 c1) (by rfl) (by rfl) 30 _ HC1.out (by show 0 + 7 ≤ 7; omega) (task_size3 t a1 c1) (t.one3 a1 c1) ?_; intro w3 B3 F3 S3; rw [splice_all _ _ (by rfl)] at B3; have e3 : w3.cell? ⟨wr.heap.size, 5, none⟩ = some (.slice a1 t.tickets.length c1) := B3.cellAt rfl; have HF3 := Lib.hid (HF2.out.trans F3 (fun k hk hlt => by rw [List.mem_singleton.1 hk] at hlt; omega)); clear B3 F3 S3)
                | (refine wpList_load_mid rfl 30 _ rfl b0 (o0 + k * 7) rfl (t.cells a1 c1) _ HRG.out Try.underlying30 rfl (task_size3 t a1 c1) ?_)
                | (refine wpList_allocZ rfl 30 rfl _ task_zero4 ?_; intro w2 B2 F2 S2; have HC1 := Lib.hid B2; have HF2 := Lib.hid F2; clear B2 F2 S2))
              have HR := Lib.hid (show LongR w1 x (.bool (decide ((1024 : Int) < (t.tickets.length : Int)))) (.int .i64 ((k + 1 : Nat) : Int)) w3 from ⟨k + 1, by omega, rfl, _, rfl, by
                rw [HH.out.2.2, List.any_append, ← Bool.or_assoc, ← HH.out.1]
                simp [tasLong]
                omega, HH.out.2.1.trans0 HF3.out⟩)
              go_roundw
              case rel => exact HR.out
              case measure => simp [intOf] <;> omega
            · go_wp2_with (first
                | (have z := HC1.out; clear z; refine wpList_storeB rfl 30 _ _ rfl wr.heap.size 0 (t.cells a1 c1) (by rfl) (by rfl) 30 _ HC1.out (by show 0 + 7 ≤ 7; omega) (task_size3 t a1 c1) (t.one3 a1 c1) ?_; intro w3 B3 F3 S3; have HF3 := Lib.hid (HF2.out.trans F3 (fun k hk hlt => by rw [List.mem_singleton.1 hk] at hlt; omega)); clear B3 F3 S3)
                | (refine wpList_load_mid rfl 30 _ rfl b0 (o0 + k * 7) rfl (t.cells a1 c1) _ HRG.out Try.underlying30 rfl (task_size3 t a1 c1) ?_)
                | (refine wpList_allocZ rfl 30 rfl _ task_zero4 ?_; intro w2 B2 F2 S2; have HC1 := Lib.hid B2; have HF2 := Lib.hid F2; clear B2 F2 S2))
              have HR := Lib.hid (show LongR w1 x (.bool true) (.int .i64 ((k + 1 : Nat) : Int)) w3 from ⟨k + 1, by omega, rfl, _, rfl, by
                rw [HH.out.2.2, List.any_append, ← Bool.or_assoc, ← HH.out.1]
                simp, HH.out.2.1.trans0 HF3.out⟩)
              go_roundw
              case rel => exact HR.out
              case measure => simp [intOf] <;> omega
          have hkl : k = x.tasks.length := by omega
          subst hkl
          have hb2 : b = x.lg := by rw [hb, List.take_length]; rfl
          have HF0 := Lib.hid hF
          clear hF hb hge
          cases hbv : b
          rotate_left
          · have HBV := Lib.hid (show x.lg = true by rw [← hb2]; exact hbv)
            clear hb2
            subst hbv
            go_wp2_with fail
            go_ret2
            rw [HEN.out, HBV.out]
            exact ⟨_, rfl, Own.nil _ _ _ _, HF1.out.trans0 HF0.out⟩
          have HBV := Lib.hid (show x.lg = false by rw [← hb2]; exact hbv)
          clear hb2
          subst hbv
          have := HBV.out
          unfold Sta.lg at this
          rw [HL0.out] at this
          cases this
      · by_cases h4 : 1024 < x.hungry.length
        · have HL0 := Lib.hid (show x.lg0 = true by rw [hlg, decide_eq_false h1, decide_eq_false h2, decide_eq_false h3, decide_eq_true h4]; rfl)
          have h1b : ¬ (1024 : Int) < (x.queues.length : Int) := by omega
          have h2b : ¬ (1024 : Int) < (x.nodes.length : Int) := by omega
          have h3b : ¬ (1024 : Int) < (x.tasks.length : Int) := by omega
          have h4b : (1024 : Int) < (x.hungry.length : Int) := by omega
          go_enter Try.func28, Try.ntmps28
          go_wp2_with (refine wpList_boxB rfl 58 _ rfl (x.cells s) (by rfl) ?_; intro w1 B1 F1 S1; have c3 : w1.cell? ⟨w.heap.size, 3, none⟩ = some (.slice s.a1 x.queues.length s.c1) := B1.cellAt rfl; have c4 : w1.cell? ⟨w.heap.size, 4, none⟩ = some (.slice s.a2 x.nodes.length s.c2) := B1.cellAt rfl; have c5 : w1.cell? ⟨w.heap.size, 5, none⟩ = some (.slice s.a3 x.tasks.length s.c3) := B1.cellAt rfl; have c6 : w1.cell? ⟨w.heap.size, 6, none⟩ = some (.slice s.a4 x.leases.length s.c4) := B1.cellAt rfl; have c7 : w1.cell? ⟨w.heap.size, 7, none⟩ = some (.slice s.a5 x.hungry.length s.c5) := B1.cellAt rfl; have HF1 := Lib.hid F1; have HB1 := Lib.hid B1; have HS1 := Lib.hid S1; clear B1 F1 S1)
          have HR1 := Lib.hid (HR.out.fr0 HF1.out)
          go_loopw [4, 47] (fun v i wr => LongR w1 x v i wr) (fun _ i _ => x.tasks.length - (intOf i).toNat)
          case atStart => exact ⟨0, Nat.zero_le _, rfl, _, rfl, by rw [List.take_zero]; simp [HL0.out], Fr.refl _ _⟩
          case round =>
            obtain ⟨k, hk, rfl, b, rfl, hb, hF⟩ := hrel
            rcases Nat.lt_or_ge k x.tasks.length with hlt | hge
            · obtain ⟨t, ht⟩ : ∃ t, x.tasks[k]? = some t := ⟨x.tasks[k], List.getElem?_eq_getElem hlt⟩
              have kb : (k : Int) < (x.tasks.length : Int) := by omega
              obtain ⟨css, hrow⟩ := (HR1.out.fr0 hF).t
              obtain ⟨b0, o0, cs, ha0, hb0, hx0, hcl, ⟨a1, c1, rfl, ra⟩, hrg⟩ := hrow.get (by decide) ht
              have hsn : x.tasks.take (k + 1) = x.tasks.take k ++ [t] := by rw [List.take_add_one, ht]; rfl
              have HRG := Lib.hid hrg
              have HH := Lib.hid (And.intro hb (And.intro hF hsn))
              have HA0 := Lib.hid ha0
              clear hF hrg ra hcl ht hsn hb hrow
              rw [HA0.out]
              cases b
              · go_wp2_with (first
                  | (have z := HC1.out; clear z; refine wpList_storeB rfl 30 _ _ rfl wr.heap.size 0 (t.cells a1 c1) (by rfl) (by rfl) 30 _ HC1.out (by show 0 + 7 ≤ 7; omega) (task_size3 t a1 c1) (t.one3 a1 c1) ?_; intro w3 B3 F3 S3; rw [splice_all _ _ (by rfl)] at B3; have e3 : w3.cell? ⟨wr.heap.size, 5, none⟩ = some (.slice a1 t.tickets.length c1) := B3.cellAt rfl; have HF3 := Lib.hid (HF2.out.trans F3 (fun k hk hlt => by rw [List.mem_singleton.1 hk] at hlt; omega)); clear B3 F3 S3)
                  | (refine wpList_load_mid rfl 30 _ rfl b0 (o0 + k * 7) rfl (t.cells a1 c1) _ HRG.out Try.underlying30 rfl (task_size3 t a1 c1) ?_)
                  | (refine wpList_allocZ rfl 30 rfl _ task_zero4 ?_; intro w2 B2 F2 S2; have HC1 := Lib.hid B2; have HF2 := Lib.hid F2; clear B2 F2 S2))
                have HR := Lib.hid (show LongR w1 x (.bool (decide ((1024 : Int) < (t.tickets.length : Int)))) (.int .i64 ((k + 1 : Nat) : Int)) w3 from ⟨k + 1, by omega, rfl, _, rfl, by
                  rw [HH.out.2.2, List.any_append, ← Bool.or_assoc, ← HH.out.1]
                  simp [tasLong]
                  omega, HH.out.2.1.trans0 HF3.out⟩)
                go_roundw
                case rel => exact HR.out
                case measure => simp [intOf] <;> omega
              · go_wp2_with (first
                  | (have z := HC1.out; clear z; refine wpList_storeB rfl 30 _ _ rfl wr.heap.size 0 (t.cells a1 c1) (by rfl) (by rfl) 30 _ HC1.out (by show 0 + 7 ≤ 7; omega) (task_size3 t a1 c1) (t.one3 a1 c1) ?_; intro w3 B3 F3 S3; have HF3 := Lib.hid (HF2.out.trans F3 (fun k hk hlt => by rw [List.mem_singleton.1 hk] at hlt; omega)); clear B3 F3 S3)
                  | (refine wpList_load_mid rfl 30 _ rfl b0 (o0 + k * 7) rfl (t.cells a1 c1) _ HRG.out Try.underlying30 rfl (task_size3 t a1 c1) ?_)
                  | (refine wpList_allocZ rfl 30 rfl _ task_zero4 ?_; intro w2 B2 F2 S2; have HC1 := Lib.hid B2; have HF2 := Lib.hid F2; clear B2 F2 S2))
                have HR := Lib.hid (show LongR w1 x (.bool true) (.int .i64 ((k + 1 : Nat) : Int)) w3 from ⟨k + 1, by omega, rfl, _, rfl, by
                  rw [HH.out.2.2, List.any_append, ← Bool.or_assoc, ← HH.out.1]
                  simp, HH.out.2.1.trans0 HF3.out⟩)
                go_roundw
                case rel => exact HR.out
                case measure => simp [intOf] <;> omega
            have hkl : k = x.tasks.length := by omega
            subst hkl
            have hb2 : b = x.lg := by rw [hb, List.take_length]; rfl
            have HF0 := Lib.hid hF
            clear hF hb hge
            cases hbv : b
            rotate_left
            · have HBV := Lib.hid (show x.lg = true by rw [← hb2]; exact hbv)
              clear hb2
              subst hbv
              go_wp2_with fail
              go_ret2
              rw [HEN.out, HBV.out]
              exact ⟨_, rfl, Own.nil _ _ _ _, HF1.out.trans0 HF0.out⟩
            have HBV := Lib.hid (show x.lg = false by rw [← hb2]; exact hbv)
            clear hb2
            subst hbv
            have := HBV.out
            unfold Sta.lg at this
            rw [HL0.out] at this
            cases this
        · have h1b : ¬ (1024 : Int) < (x.queues.length : Int) := by omega
          have h2b : ¬ (1024 : Int) < (x.nodes.length : Int) := by omega
          have h3b : ¬ (1024 : Int) < (x.tasks.length : Int) := by omega
          have h4b : ¬ (1024 : Int) < (x.hungry.length : Int) := by omega
          have hl5 : x.lg0 = !shortL x.leases := by rw [hlg, decide_eq_false h1, decide_eq_false h2, decide_eq_false h3, decide_eq_false h4]; rfl
          clear hlg h1 h2 h3 h4
          go_enter Try.func28, Try.ntmps28
          go_wp2_with (refine wpList_boxB rfl 58 _ rfl (x.cells s) (by rfl) ?_; intro w1 B1 F1 S1; have c3 : w1.cell? ⟨w.heap.size, 3, none⟩ = some (.slice s.a1 x.queues.length s.c1) := B1.cellAt rfl; have c4 : w1.cell? ⟨w.heap.size, 4, none⟩ = some (.slice s.a2 x.nodes.length s.c2) := B1.cellAt rfl; have c5 : w1.cell? ⟨w.heap.size, 5, none⟩ = some (.slice s.a3 x.tasks.length s.c3) := B1.cellAt rfl; have c6 : w1.cell? ⟨w.heap.size, 6, none⟩ = some (.slice s.a4 x.leases.length s.c4) := B1.cellAt rfl; have c7 : w1.cell? ⟨w.heap.size, 7, none⟩ = some (.slice s.a5 x.hungry.length s.c5) := B1.cellAt rfl; have HF1 := Lib.hid F1; have HB1 := Lib.hid B1; have HS1 := Lib.hid S1; clear B1 F1 S1)
          have HR1' := Lib.hid (HR.out.fr0 HF1.out)
          obtain ⟨cssL, RL⟩ := HR1'.out.l
          refine (short_calls s.a4 s.c4 x.leases cssL RL (by omega)).mono ?_
          rintro e wz ⟨rfl, fz⟩
          have HFz := Lib.hid (HF1.out.trans0 fz)
          have HBz := Lib.hid (HB1.out.fr fz (by simp))
          have HR1 := Lib.hid (HR.out.fr0 HFz.out)
          have c5z : wz.cell? ⟨w.heap.size, 5, none⟩ = some (.slice s.a3 x.tasks.length s.c3) := HBz.out.cellAt rfl
          clear fz RL HR1' c3 c4 c5 c6 c7
          cases hsh : shortL x.leases with
          | false =>
            have HL0 := Lib.hid (show x.lg0 = true by rw [hl5, hsh]; rfl)
            clear hl5 hsh
            go_wp2_with fail
            go_loopw [4, 47] (fun v i wr => LongR wz x v i wr) (fun _ i _ => x.tasks.length - (intOf i).toNat)
            case atStart => exact ⟨0, Nat.zero_le _, rfl, _, rfl, by rw [List.take_zero]; simp [HL0.out], Fr.refl _ _⟩
            case round =>
              obtain ⟨k, hk, rfl, b, rfl, hb, hF⟩ := hrel
              rcases Nat.lt_or_ge k x.tasks.length with hlt | hge
              · obtain ⟨t, ht⟩ : ∃ t, x.tasks[k]? = some t := ⟨x.tasks[k], List.getElem?_eq_getElem hlt⟩
                have kb : (k : Int) < (x.tasks.length : Int) := by omega
                obtain ⟨css, hrow⟩ := (HR1.out.fr0 hF).t
                obtain ⟨b0, o0, cs, ha0, hb0, hx0, hcl, ⟨a1, c1, rfl, ra⟩, hrg⟩ := hrow.get (by decide) ht
                have hsn : x.tasks.take (k + 1) = x.tasks.take k ++ [t] := by rw [List.take_add_one, ht]; rfl
                have HRG := Lib.hid hrg
                have HH := Lib.hid (And.intro hb (And.intro hF hsn))
                have HA0 := Lib.hid ha0
                clear hF hrg ra hcl ht hsn hb hrow
                rw [HA0.out]
                cases b
                · go_wp2_with (first
                    | (have z := HC1.out; clear z; refine wpList_storeB rfl 30 _ _ rfl wr.heap.size 0 (t.cells a1 c1) (by rfl) (by rfl) 30 _ HC1.out (by show 0 + 7 ≤ 7; omega) (task_size3 t a1 c1) (t.one3 a1 c1) ?_; intro w3 B3 F3 S3; rw [splice_all _ _ (by rfl)] at B3; have e3 : w3.cell? ⟨wr.heap.size, 5, none⟩ = some (.slice a1 t.tickets.length c1) := B3.cellAt rfl; have HF3 := Lib.hid (HF2.out.trans F3 (fun k hk hlt => by rw [List.mem_singleton.1 hk] at hlt; omega)); clear B3 F3 S3)
                    | (refine wpList_load_mid rfl 30 _ rfl b0 (o0 + k * 7) rfl (t.cells a1 c1) _ HRG.out Try.underlying30 rfl (task_size3 t a1 c1) ?_)
                    | (refine wpList_allocZ rfl 30 rfl _ task_zero4 ?_; intro w2 B2 F2 S2; have HC1 := Lib.hid B2; have HF2 := Lib.hid F2; clear B2 F2 S2))
                  have HR := Lib.hid (show LongR wz x (.bool (decide ((1024 : Int) < (t.tickets.length : Int)))) (.int .i64 ((k + 1 : Nat) : Int)) w3 from ⟨k + 1, by omega, rfl, _, rfl, by
                    rw [HH.out.2.2, List.any_append, ← Bool.or_assoc, ← HH.out.1]
                    simp [tasLong]
                    omega, HH.out.2.1.trans0 HF3.out⟩)
                  go_roundw
                  case rel => exact HR.out
                  case measure => simp [intOf] <;> omega
                · go_wp2_with (first
                    | (have z := HC1.out; clear z; refine wpList_storeB rfl 30 _ _ rfl wr.heap.size 0 (t.cells a1 c1) (by rfl) (by rfl) 30 _ HC1.out (by show 0 + 7 ≤ 7; omega) (task_size3 t a1 c1) (t.one3 a1 c1) ?_; intro w3 B3 F3 S3; have HF3 := Lib.hid (HF2.out.trans F3 (fun k hk hlt => by rw [List.mem_singleton.1 hk] at hlt; omega)); clear B3 F3 S3)
                    | (refine wpList_load_mid rfl 30 _ rfl b0 (o0 + k * 7) rfl (t.cells a1 c1) _ HRG.out Try.underlying30 rfl (task_size3 t a1 c1) ?_)
                    | (refine wpList_allocZ rfl 30 rfl _ task_zero4 ?_; intro w2 B2 F2 S2; have HC1 := Lib.hid B2; have HF2 := Lib.hid F2; clear B2 F2 S2))
                  have HR := Lib.hid (show LongR wz x (.bool true) (.int .i64 ((k + 1 : Nat) : Int)) w3 from ⟨k + 1, by omega, rfl, _, rfl, by
                    rw [HH.out.2.2, List.any_append, ← Bool.or_assoc, ← HH.out.1]
                    simp, HH.out.2.1.trans0 HF3.out⟩)
                  go_roundw
                  case rel => exact HR.out
                  case measure => simp [intOf] <;> omega
              have hkl : k = x.tasks.length := by omega
              subst hkl
              have hb2 : b = x.lg := by rw [hb, List.take_length]; rfl
              have HF0 := Lib.hid hF
              clear hF hb hge
              cases hbv : b
              rotate_left
              · have HBV := Lib.hid (show x.lg = true by rw [← hb2]; exact hbv)
                clear hb2
                subst hbv
                go_wp2_with fail
                go_ret2
                rw [HEN.out, HBV.out]
                exact ⟨_, rfl, Own.nil _ _ _ _, HFz.out.trans0 HF0.out⟩
              have HBV := Lib.hid (show x.lg = false by rw [← hb2]; exact hbv)
              clear hb2
              subst hbv
              have := HBV.out
              unfold Sta.lg at this
              rw [HL0.out] at this
              cases this
          | true =>
            have HL0 := Lib.hid (show x.lg0 = false by rw [hl5, hsh]; rfl)
            clear hl5 hsh
            go_wp2_with fail
            go_loopw [4, 47] (fun v i wr => LongR wz x v i wr) (fun _ i _ => x.tasks.length - (intOf i).toNat)
            case atStart => exact ⟨0, Nat.zero_le _, rfl, _, rfl, by rw [List.take_zero]; simp [HL0.out], Fr.refl _ _⟩
            case round =>
              obtain ⟨k, hk, rfl, b, rfl, hb, hF⟩ := hrel
              rcases Nat.lt_or_ge k x.tasks.length with hlt | hge
              · obtain ⟨t, ht⟩ : ∃ t, x.tasks[k]? = some t := ⟨x.tasks[k], List.getElem?_eq_getElem hlt⟩
                have kb : (k : Int) < (x.tasks.length : Int) := by omega
                obtain ⟨css, hrow⟩ := (HR1.out.fr0 hF).t
                obtain ⟨b0, o0, cs, ha0, hb0, hx0, hcl, ⟨a1, c1, rfl, ra⟩, hrg⟩ := hrow.get (by decide) ht
                have hsn : x.tasks.take (k + 1) = x.tasks.take k ++ [t] := by rw [List.take_add_one, ht]; rfl
                have HRG := Lib.hid hrg
                have HH := Lib.hid (And.intro hb (And.intro hF hsn))
                have HA0 := Lib.hid ha0
                clear hF hrg ra hcl ht hsn hb hrow
                rw [HA0.out]
                cases b
                · go_wp2_with (first
                    | (have z := HC1.out; clear z; refine wpList_storeB rfl 30 _ _ rfl wr.heap.size 0 (t.cells a1 c1) (by rfl) (by rfl) 30 _ HC1.out (by show 0 + 7 ≤ 7; omega) (task_size3 t a1 c1) (t.one3 a1 c1) ?_; intro w3 B3 F3 S3; rw [splice_all _ _ (by rfl)] at B3; have e3 : w3.cell? ⟨wr.heap.size, 5, none⟩ = some (.slice a1 t.tickets.length c1) := B3.cellAt rfl; have HF3 := Lib.hid (HF2.out.trans F3 (fun k hk hlt => by rw [List.mem_singleton.1 hk] at hlt; omega)); clear B3 F3 S3)
                    | (refine wpList_load_mid rfl 30 _ rfl b0 (o0 + k * 7) rfl (t.cells a1 c1) _ HRG.out Try.underlying30 rfl (task_size3 t a1 c1) ?_)
                    | (refine wpList_allocZ rfl 30 rfl _ task_zero4 ?_; intro w2 B2 F2 S2; have HC1 := Lib.hid B2; have HF2 := Lib.hid F2; clear B2 F2 S2))
                  have HR := Lib.hid (show LongR wz x (.bool (decide ((1024 : Int) < (t.tickets.length : Int)))) (.int .i64 ((k + 1 : Nat) : Int)) w3 from ⟨k + 1, by omega, rfl, _, rfl, by
                    rw [HH.out.2.2, List.any_append, ← Bool.or_assoc, ← HH.out.1]
                    simp [tasLong]
                    omega, HH.out.2.1.trans0 HF3.out⟩)
                  go_roundw
                  case rel => exact HR.out
                  case measure => simp [intOf] <;> omega
                · go_wp2_with (first
                    | (have z := HC1.out; clear z; refine wpList_storeB rfl 30 _ _ rfl wr.heap.size 0 (t.cells a1 c1) (by rfl) (by rfl) 30 _ HC1.out (by show 0 + 7 ≤ 7; omega) (task_size3 t a1 c1) (t.one3 a1 c1) ?_; intro w3 B3 F3 S3; have HF3 := Lib.hid (HF2.out.trans F3 (fun k hk hlt => by rw [List.mem_singleton.1 hk] at hlt; omega)); clear B3 F3 S3)
                    | (refine wpList_load_mid rfl 30 _ rfl b0 (o0 + k * 7) rfl (t.cells a1 c1) _ HRG.out Try.underlying30 rfl (task_size3 t a1 c1) ?_)
                    | (refine wpList_allocZ rfl 30 rfl _ task_zero4 ?_; intro w2 B2 F2 S2; have HC1 := Lib.hid B2; have HF2 := Lib.hid F2; clear B2 F2 S2))
                  have HR := Lib.hid (show LongR wz x (.bool true) (.int .i64 ((k + 1 : Nat) : Int)) w3 from ⟨k + 1, by omega, rfl, _, rfl, by
                    rw [HH.out.2.2, List.any_append, ← Bool.or_assoc, ← HH.out.1]
                    simp, HH.out.2.1.trans0 HF3.out⟩)
                  go_roundw
                  case rel => exact HR.out
                  case measure => simp [intOf] <;> omega
              have hkl : k = x.tasks.length := by omega
              subst hkl
              have hb2 : b = x.lg := by rw [hb, List.take_length]; rfl
              have HF0 := Lib.hid hF
              clear hF hb hge
              cases hbv : b
              rotate_left
              · have HBV := Lib.hid (show x.lg = true by rw [← hb2]; exact hbv)
                clear hb2
                subst hbv
                go_wp2_with fail
                go_ret2
                rw [HEN.out, HBV.out]
                exact ⟨_, rfl, Own.nil _ _ _ _, HFz.out.trans0 HF0.out⟩
              have HBV := Lib.hid (show x.lg = false by rw [← hb2]; exact hbv)
              clear hb2
              subst hbv
              generalize wr = w5 at *
              have HB5 := Lib.hid (HBz.out.fr HF0.out (by simp))
              have d0 : w5.cell? ⟨w.heap.size, 0, none⟩ = some (.int .i64 x.long) := HB5.out.cellAt rfl
              have d1 : w5.cell? ⟨w.heap.size, 1, none⟩ = some (.int .i64 x.patience) := HB5.out.cellAt rfl
              have d2 : w5.cell? ⟨w.heap.size, 2, none⟩ = some (.int .i64 x.now) := HB5.out.cellAt rfl
              rw [HBV.out] at HEN
              clear HR1 hk c5z
              go_wp2_with (refine wpList_buildN rfl 81 2 3 [(0, .tmp 61), (1, .tmp 63), (2, .tmp 65)] rfl [(0, .int .i64 x.long), (1, .int .i64 x.patience), (2, .int .i64 x.now)] (by rfl) _ (buildI_3 x.long x.patience x.now) ?_; intro w6 B6 F6 S6; have HB6 := Lib.hid B6; have HF6 := Lib.hid F6; clear B6 F6 S6)
              have G6 := Grow.nil (base := w.heap.size) ((HFz.out.trans0 HF0.out).trans0 HF6.out)
              refine (put_calls (w := w6) (base := w.heap.size) G6.2.1.size (.slice none 0 0) [] G6.1 _ 3 3 [x.long, x.patience, x.now] rfl (HB6.out.rdA (by simp)) HQ.out.1 (by simp)).mono ?_
              rintro e w7 ⟨v7, rfl, O7, F7, K7⟩
              have HG7 := Lib.hid (G6.put O7 F7 K7)
              have HB7 := Lib.hid ((HB5.out.fr HF6.out (by simp)).fr F7 (by simp))
              rw [List.nil_append] at HG7
              have HE7 := Lib.hid (show intsE [x.long, x.patience, x.now] ++ (eachE qEnc x.queues ++ (eachE nEnc x.nodes ++ (eachE Tas.enc x.tasks ++ (eachE Lea.enc x.leases ++ (eachE hEnc x.hungry ++ []))))) = x.enc by unfold Sta.enc; simp only [List.append_assoc, List.append_nil])
              have HN7 := Lib.hid (show (intsE [x.long, x.patience, x.now]).length ≤ 27 from by have := intsE_length [x.long, x.patience, x.now]; simpa using this)
              clear G6 O7 F7 K7 d0 d1 d2 HB5 HB6
              generalize intsE [x.long, x.patience, x.now] = b7 at *
              have hq1 := sum_c 1 x.queues
              have hn1 := sum_c 1 x.nodes
              have hh1 := sum_c 1 x.hungry
              have cl : w7.cell? ⟨w.heap.size, 3, none⟩ = some (.slice s.a1 x.queues.length s.c1) := HB7.out.cellAt rfl
              have hlay : (layN x.queues.length).length ≤ 9 := by rw [layN_length]; have := kl_le x.queues.length; omega
              have hBl := HN7.out
              go_wp2_with fail
              refine (count_calls_ref (w := w7) (base := w.heap.size) HG7.out.2.1.size x.queues.length (by omega)).mono ?_
              rintro e wb7 ⟨ub7, rfl, Ob7, Fb7⟩
              obtain ⟨ab7, kb7, rfl, _, _, Rb7⟩ := Ob7.form
              have HGb7 := Lib.hid (HG7.out.fr0 Fb7)
              have HBb7 := Lib.hid (HB7.out.fr Fb7 (by simp))
              have HRb7 := Lib.hid Rb7
              have hzb := HGb7.out.2.1.size
              clear Ob7 Fb7 Rb7 cl HG7 HB7
              go_wp2_with (refine wpList_appB rfl _ _ 37 37 rfl w.heap.size 5 5 .u8 1 Try.underlying37 Try.underlying37 info_byte _ b7.length (bv b7) (by rfl) HGb7.out.1 ab7 (layN x.queues.length).length kb7 (bv (layN x.queues.length)) (by rfl) HRb7.out (by simp) (bv_one _) (by simp only [maxLen]; omega) (by omega) (by omega) ?_; intro vc7 wc7 Oc7 Fc7 Kc7 _; have HGc7 := Lib.hid (HGb7.out.app Oc7 Fc7 Kc7); have hbc := HBb7.out.fr Fc7 (HGb7.out.ne HBb7.out (by decide)); have clc : wc7.cell? ⟨w.heap.size, 3, none⟩ = some (.slice s.a1 x.queues.length s.c1) := hbc.cellAt rfl; have HBc7 := Lib.hid hbc; clear Oc7 Fc7 Kc7 hbc)
              have HRc := Lib.hid (show GrowR qEnc w b7 x.queues (x.cells s) vc7 (.int .i64 (0 : Nat)) wc7 from ⟨0, Nat.zero_le _, rfl, by simpa using HGc7.out, HBc7.out⟩)
              clear clc HGc7 HBc7 HGb7 HBb7 HRb7
              go_loopw [7, 77] (fun v i wr => GrowR qEnc w b7 x.queues (x.cells s) v i wr) (fun _ i _ => x.queues.length - (intOf i).toNat)
              case atStart => exact HRc.out
              case round =>
                obtain ⟨k, hk, rfl, hG, hB⟩ := hrel
                have HG := Lib.hid hG
                have HB := Lib.hid hB
                clear hG hB HRc
                rcases Nat.lt_or_ge k x.queues.length with hlt | hge
                · obtain ⟨t, ht⟩ : ∃ t, x.queues[k]? = some t := ⟨x.queues[k], List.getElem?_eq_getElem hlt⟩
                  have kb : (k : Int) < (x.queues.length : Int) := by omega
                  obtain ⟨css, hrow⟩ := (HR.out.fr0 HG.out.2.1).q
                  obtain ⟨b0, o0, cs, ha0, hb0, hx0, hcl, hel, hrg⟩ := hrow.get (by decide) ht
                  have hsn : x.queues.take (k + 1) = x.queues.take k ++ [t] := by rw [List.take_add_one, ht]; rfl
                  have hfl := flatMap_len qEnc (fun _ => 1) (x.queues.take k) (fun t ht => (fun t _ => qEnc_len t) t (List.mem_of_mem_take ht))
                  have hst := sum_take (fun t => (fun _ => 1) t + 10) x.queues k t ht
                  have hbl : (b7 ++ layN x.queues.length ++ (x.queues.take k).flatMap qEnc).length ≤ 2000000000 := by simp only [List.length_append]; have := HN7.out; simp only at hst; omega
                  have hmx : 9 * ((fun _ => 1) t + 10) ≤ 2000000000 := by simp only at hst ⊢; omega
                  have htq := List.mem_of_getElem? ht
                  have HT := Lib.hid (And.intro htq hrg)
                  have HSN := Lib.hid (show b7 ++ layN x.queues.length ++ (x.queues.take k).flatMap qEnc ++ qEnc t = b7 ++ layN x.queues.length ++ (x.queues.take (k + 1)).flatMap qEnc by rw [hsn, List.flatMap_append, ← List.append_assoc]; simp)
                  have hz := HG.out.2.1.size
                  clear hfl hst htq hrg hcl ht hsn hrow
                  rw [ha0]
                  clear ha0
                  generalize b7 ++ layN x.queues.length ++ (x.queues.take k).flatMap qEnc = B at *
                  have hcs : cs = t.cells := hel
                  subst hcs
                  go_wp2_with (first
                    | (have z := HC2.out; clear z; refine wpList_loadB rfl 25 _ rfl wr.heap.size (by rfl) 25 _ _ HC2.out Try.underlying25 rfl (by kernel_rfl) ?_)
                    | (have z := HC1.out; clear z; refine wpList_storeB rfl 25 _ _ rfl wr.heap.size 0 (t.cells) (by rfl) (by rfl) 25 _ HC1.out (by show 0 + 7 ≤ 7; omega) (by kernel_rfl) (by simp [Value.oneCell', Que.cells, Nod.cells, Tas.cells, Hun.cells]) ?_; intro w3 B3 F3 S3; rw [splice_all _ _ (by rfl)] at B3; have HC2 := Lib.hid B3;  have HF3 := Lib.hid (HF2.out.trans F3 (fun k hk hlt => by rw [List.mem_singleton.1 hk] at hlt; omega)); clear B3 F3 S3)
                    | (refine wpList_load_mid rfl 25 _ rfl b0 (o0 + k * 7) rfl (t.cells) _ HT.out.2 Try.underlying25 rfl (by kernel_rfl) ?_)
                    | (refine wpList_allocZ rfl 25 rfl _ queue_zero3 ?_; intro w2 B2 F2 S2; have HC1 := Lib.hid B2; have HF2 := Lib.hid F2; clear B2 F2 S2))
                  refine (rq_calls w3 t).mono ?_
                  rintro e w4 ⟨g4, rfl, hg4, B4, F4⟩
                  have HB4 := Lib.hid B4
                  have HG4 := Lib.hid ((HG.out.fr0 HF3.out).fr0 F4)
                  have HK4 := Lib.hid ((HB.out.fr HF3.out (by simp)).fr F4 (by simp))
                  have hng : g4 ∉ ob _ := fun hm => by have := (HG.out.1.lt hm).2; have := HF3.out.size; omega
                  have HNG := Lib.hid hng
                  have HIQ := Lib.hid (HQ.out.2.1 t HT.out.1)
                  clear B4 F4 hng hg4
                  go_wp2_with fail
                  refine (put_calls (w := w4) (base := w.heap.size) HG4.out.2.1.size _ B HG4.out.1 _ 7 7 t.ints rfl (HB4.out.rdA HNG.out) HIQ.out (by omega)).mono ?_
                  rintro e w5 ⟨v5, rfl, O5, F5, K5⟩
                  have HR := Lib.hid (show GrowR qEnc w b7 x.queues (x.cells s) v5 (.int .i64 ((k + 1 : Nat) : Int)) w5 from ⟨k + 1, by omega, rfl, by rw [← HSN.out]; exact HG4.out.put O5 F5 K5, HK4.out.fr F5 (HG4.out.ne HK4.out (by decide))⟩)
                  clear O5 F5 K5
                  go_wp2_with fail
                  go_roundw
                  case rel => exact HR.out
                  case measure => simp [intOf] <;> omega
                have hkl : k = x.queues.length := by omega
                subst hkl
                rw [eachE_eq] at HG
                generalize wr = w8 at *
                have HG8 := HG
                have HB8 := HB
                have HE8 := Lib.hid HE7.out
                rw [← List.append_assoc] at HE8
                have HN8 := Lib.hid (show (b7 ++ eachE qEnc x.queues).length ≤ 110000000 from by rw [List.length_append]; have := HN7.out; have := eachE_len qEnc (fun _ => 1) x.queues (fun t _ => qEnc_len t); omega)
                clear HG HB HE7 HN7 hge hk
                generalize b7 ++ eachE qEnc x.queues = b8 at *
                have cl : w8.cell? ⟨w.heap.size, 4, none⟩ = some (.slice s.a2 x.nodes.length s.c2) := HB8.out.cellAt rfl
                have hlay : (layN x.nodes.length).length ≤ 9 := by rw [layN_length]; have := kl_le x.nodes.length; omega
                have hBl := HN8.out
                go_wp2_with fail
                refine (count_calls_ref (w := w8) (base := w.heap.size) HG8.out.2.1.size x.nodes.length (by omega)).mono ?_
                rintro e wb8 ⟨ub8, rfl, Ob8, Fb8⟩
                obtain ⟨ab8, kb8, rfl, _, _, Rb8⟩ := Ob8.form
                have HGb8 := Lib.hid (HG8.out.fr0 Fb8)
                have HBb8 := Lib.hid (HB8.out.fr Fb8 (by simp))
                have HRb8 := Lib.hid Rb8
                have hzb := HGb8.out.2.1.size
                clear Ob8 Fb8 Rb8 cl HG8 HB8
                go_wp2_with (refine wpList_appB rfl _ _ 37 37 rfl w.heap.size 5 5 .u8 1 Try.underlying37 Try.underlying37 info_byte _ b8.length (bv b8) (by rfl) HGb8.out.1 ab8 (layN x.nodes.length).length kb8 (bv (layN x.nodes.length)) (by rfl) HRb8.out (by simp) (bv_one _) (by simp only [maxLen]; omega) (by omega) (by omega) ?_; intro vc8 wc8 Oc8 Fc8 Kc8 _; have HGc8 := Lib.hid (HGb8.out.app Oc8 Fc8 Kc8); have hbc := HBb8.out.fr Fc8 (HGb8.out.ne HBb8.out (by decide)); have clc : wc8.cell? ⟨w.heap.size, 4, none⟩ = some (.slice s.a2 x.nodes.length s.c2) := hbc.cellAt rfl; have HBc8 := Lib.hid hbc; clear Oc8 Fc8 Kc8 hbc)
                have HRc := Lib.hid (show GrowR nEnc w b8 x.nodes (x.cells s) vc8 (.int .i64 (0 : Nat)) wc8 from ⟨0, Nat.zero_le _, rfl, by simpa using HGc8.out, HBc8.out⟩)
                clear clc HGc8 HBc8 HGb8 HBb8 HRb8
                go_loopw [7, 95] (fun v i wr => GrowR nEnc w b8 x.nodes (x.cells s) v i wr) (fun _ i _ => x.nodes.length - (intOf i).toNat)
                case atStart => exact HRc.out
                case round =>
                  obtain ⟨k, hk, rfl, hG, hB⟩ := hrel
                  have HG := Lib.hid hG
                  have HB := Lib.hid hB
                  clear hG hB HRc
                  rcases Nat.lt_or_ge k x.nodes.length with hlt | hge
                  · obtain ⟨t, ht⟩ : ∃ t, x.nodes[k]? = some t := ⟨x.nodes[k], List.getElem?_eq_getElem hlt⟩
                    have kb : (k : Int) < (x.nodes.length : Int) := by omega
                    obtain ⟨css, hrow⟩ := (HR.out.fr0 HG.out.2.1).n
                    obtain ⟨b0, o0, cs, ha0, hb0, hx0, hcl, hel, hrg⟩ := hrow.get (by decide) ht
                    have hsn : x.nodes.take (k + 1) = x.nodes.take k ++ [t] := by rw [List.take_add_one, ht]; rfl
                    have hfl := flatMap_len nEnc (fun _ => 1) (x.nodes.take k) (fun t ht => (fun t _ => nEnc_len t) t (List.mem_of_mem_take ht))
                    have hst := sum_take (fun t => (fun _ => 1) t + 10) x.nodes k t ht
                    have hbl : (b8 ++ layN x.nodes.length ++ (x.nodes.take k).flatMap nEnc).length ≤ 2000000000 := by simp only [List.length_append]; have := HN8.out; simp only at hst; omega
                    have hmx : 9 * ((fun _ => 1) t + 10) ≤ 2000000000 := by simp only at hst ⊢; omega
                    have htq := List.mem_of_getElem? ht
                    have HT := Lib.hid (And.intro htq hrg)
                    have HSN := Lib.hid (show b8 ++ layN x.nodes.length ++ (x.nodes.take k).flatMap nEnc ++ nEnc t = b8 ++ layN x.nodes.length ++ (x.nodes.take (k + 1)).flatMap nEnc by rw [hsn, List.flatMap_append, ← List.append_assoc]; simp)
                    have hz := HG.out.2.1.size
                    clear hfl hst htq hrg hcl ht hsn hrow
                    rw [ha0]
                    clear ha0
                    generalize b8 ++ layN x.nodes.length ++ (x.nodes.take k).flatMap nEnc = B at *
                    have hcs : cs = t.cells := hel
                    subst hcs
                    go_wp2_with (first
                      | (have z := HC2.out; clear z; refine wpList_loadB rfl 27 _ rfl wr.heap.size (by rfl) 27 _ _ HC2.out Try.underlying27 rfl (by kernel_rfl) ?_)
                      | (have z := HC1.out; clear z; refine wpList_storeB rfl 27 _ _ rfl wr.heap.size 0 (t.cells) (by rfl) (by rfl) 27 _ HC1.out (by show 0 + 5 ≤ 5; omega) (by kernel_rfl) (by simp [Value.oneCell', Que.cells, Nod.cells, Tas.cells, Hun.cells]) ?_; intro w3 B3 F3 S3; rw [splice_all _ _ (by rfl)] at B3; have HC2 := Lib.hid B3;  have HF3 := Lib.hid (HF2.out.trans F3 (fun k hk hlt => by rw [List.mem_singleton.1 hk] at hlt; omega)); clear B3 F3 S3)
                      | (refine wpList_load_mid rfl 27 _ rfl b0 (o0 + k * 5) rfl (t.cells) _ HT.out.2 Try.underlying27 rfl (by kernel_rfl) ?_)
                      | (refine wpList_allocZ rfl 27 rfl _ node_zero3 ?_; intro w2 B2 F2 S2; have HC1 := Lib.hid B2; have HF2 := Lib.hid F2; clear B2 F2 S2))
                    refine (rn_calls w3 t).mono ?_
                    rintro e w4 ⟨g4, rfl, hg4, B4, F4⟩
                    have HB4 := Lib.hid B4
                    have HG4 := Lib.hid ((HG.out.fr0 HF3.out).fr0 F4)
                    have HK4 := Lib.hid ((HB.out.fr HF3.out (by simp)).fr F4 (by simp))
                    have hng : g4 ∉ ob _ := fun hm => by have := (HG.out.1.lt hm).2; have := HF3.out.size; omega
                    have HNG := Lib.hid hng
                    have HIQ := Lib.hid (HQ.out.2.2.1 t HT.out.1)
                    clear B4 F4 hng hg4
                    go_wp2_with fail
                    refine (put_calls (w := w4) (base := w.heap.size) HG4.out.2.1.size _ B HG4.out.1 _ 5 5 t.ints rfl (HB4.out.rdA HNG.out) HIQ.out (by omega)).mono ?_
                    rintro e w5 ⟨v5, rfl, O5, F5, K5⟩
                    have HR := Lib.hid (show GrowR nEnc w b8 x.nodes (x.cells s) v5 (.int .i64 ((k + 1 : Nat) : Int)) w5 from ⟨k + 1, by omega, rfl, by rw [← HSN.out]; exact HG4.out.put O5 F5 K5, HK4.out.fr F5 (HG4.out.ne HK4.out (by decide))⟩)
                    clear O5 F5 K5
                    go_wp2_with fail
                    go_roundw
                    case rel => exact HR.out
                    case measure => simp [intOf] <;> omega
                  have hkl : k = x.nodes.length := by omega
                  subst hkl
                  rw [eachE_eq] at HG
                  generalize wr = w9 at *
                  have HG9 := HG
                  have HB9 := HB
                  have HE9 := Lib.hid HE8.out
                  rw [← List.append_assoc] at HE9
                  have HN9 := Lib.hid (show (b8 ++ eachE nEnc x.nodes).length ≤ 220000000 from by rw [List.length_append]; have := HN8.out; have := eachE_len nEnc (fun _ => 1) x.nodes (fun t _ => nEnc_len t); omega)
                  clear HG HB HE8 HN8 hge hk
                  generalize b8 ++ eachE nEnc x.nodes = b9 at *
                  have cl : w9.cell? ⟨w.heap.size, 5, none⟩ = some (.slice s.a3 x.tasks.length s.c3) := HB9.out.cellAt rfl
                  have hlay : (layN x.tasks.length).length ≤ 9 := by rw [layN_length]; have := kl_le x.tasks.length; omega
                  have hBl := HN9.out
                  go_wp2_with fail
                  refine (count_calls_ref (w := w9) (base := w.heap.size) HG9.out.2.1.size x.tasks.length (by omega)).mono ?_
                  rintro e wb9 ⟨ub9, rfl, Ob9, Fb9⟩
                  obtain ⟨ab9, kb9, rfl, _, _, Rb9⟩ := Ob9.form
                  have HGb9 := Lib.hid (HG9.out.fr0 Fb9)
                  have HBb9 := Lib.hid (HB9.out.fr Fb9 (by simp))
                  have HRb9 := Lib.hid Rb9
                  have hzb := HGb9.out.2.1.size
                  clear Ob9 Fb9 Rb9 cl HG9 HB9
                  go_wp2_with (refine wpList_appB rfl _ _ 37 37 rfl w.heap.size 5 5 .u8 1 Try.underlying37 Try.underlying37 info_byte _ b9.length (bv b9) (by rfl) HGb9.out.1 ab9 (layN x.tasks.length).length kb9 (bv (layN x.tasks.length)) (by rfl) HRb9.out (by simp) (bv_one _) (by simp only [maxLen]; omega) (by omega) (by omega) ?_; intro vc9 wc9 Oc9 Fc9 Kc9 _; have HGc9 := Lib.hid (HGb9.out.app Oc9 Fc9 Kc9); have hbc := HBb9.out.fr Fc9 (HGb9.out.ne HBb9.out (by decide)); have clc : wc9.cell? ⟨w.heap.size, 5, none⟩ = some (.slice s.a3 x.tasks.length s.c3) := hbc.cellAt rfl; have HBc9 := Lib.hid hbc; clear Oc9 Fc9 Kc9 hbc)
                  have HRc := Lib.hid (show GrowR Tas.enc w b9 x.tasks (x.cells s) vc9 (.int .i64 (0 : Nat)) wc9 from ⟨0, Nat.zero_le _, rfl, by simpa using HGc9.out, HBc9.out⟩)
                  clear clc HGc9 HBc9 HGb9 HBb9 HRb9
                  go_loopw [7, 113] (fun v i wr => GrowR Tas.enc w b9 x.tasks (x.cells s) v i wr) (fun _ i _ => x.tasks.length - (intOf i).toNat)
                  case atStart => exact HRc.out
                  case round =>
                    obtain ⟨k, hk, rfl, hG, hB⟩ := hrel
                    have HG := Lib.hid hG
                    have HB := Lib.hid hB
                    clear hG hB HRc
                    rcases Nat.lt_or_ge k x.tasks.length with hlt | hge
                    · obtain ⟨t, ht⟩ : ∃ t, x.tasks[k]? = some t := ⟨x.tasks[k], List.getElem?_eq_getElem hlt⟩
                      have kb : (k : Int) < (x.tasks.length : Int) := by omega
                      obtain ⟨css, hrow⟩ := (HR.out.fr0 HG.out.2.1).t
                      obtain ⟨b0, o0, cs, ha0, hb0, hx0, hcl, hel, hrg⟩ := hrow.get (by decide) ht
                      have hsn : x.tasks.take (k + 1) = x.tasks.take k ++ [t] := by rw [List.take_add_one, ht]; rfl
                      have hfl := flatMap_len Tas.enc (fun t : Tas => t.tickets.length) (x.tasks.take k) (fun t ht => (fun t _ => tEnc_len t) t (List.mem_of_mem_take ht))
                      have hst := sum_take (fun t => (fun t : Tas => t.tickets.length) t + 10) x.tasks k t ht
                      have hbl : (b9 ++ layN x.tasks.length ++ (x.tasks.take k).flatMap Tas.enc).length ≤ 2000000000 := by simp only [List.length_append]; have := HN9.out; simp only at hst; omega
                      have hmx : 9 * ((fun t : Tas => t.tickets.length) t + 10) ≤ 2000000000 := by simp only at hst ⊢; omega
                      have htq := List.mem_of_getElem? ht
                      have HT := Lib.hid (And.intro htq hrg)
                      have HSN := Lib.hid (show b9 ++ layN x.tasks.length ++ (x.tasks.take k).flatMap Tas.enc ++ Tas.enc t = b9 ++ layN x.tasks.length ++ (x.tasks.take (k + 1)).flatMap Tas.enc by rw [hsn, List.flatMap_append, ← List.append_assoc]; simp)
                      have hz := HG.out.2.1.size
                      clear hfl hst htq hrg hcl ht hsn hrow
                      rw [ha0]
                      clear ha0
                      generalize b9 ++ layN x.tasks.length ++ (x.tasks.take k).flatMap Tas.enc = B at *
                      obtain ⟨a1, c1, rfl, ra⟩ := hel
                      have hsm := sum_mem (fun t : Tas => t.tickets.length + 1) x.tasks t HT.out.1
                      have HRA := Lib.hid ra
                      clear ra
                      go_wp2_with (first
                        | (have z := HC2.out; clear z; refine wpList_loadB rfl 30 _ rfl wr.heap.size (by rfl) 30 _ _ HC2.out Try.underlying30 rfl (by kernel_rfl) ?_)
                        | (have z := HC1.out; clear z; refine wpList_storeB rfl 30 _ _ rfl wr.heap.size 0 (t.cells a1 c1) (by rfl) (by rfl) 30 _ HC1.out (by show 0 + 7 ≤ 7; omega) (by kernel_rfl) (by simp [Value.oneCell', Que.cells, Nod.cells, Tas.cells, Hun.cells]) ?_; intro w3 B3 F3 S3; rw [splice_all _ _ (by rfl)] at B3; have HC2 := Lib.hid B3;  have HF3 := Lib.hid (HF2.out.trans F3 (fun k hk hlt => by rw [List.mem_singleton.1 hk] at hlt; omega)); clear B3 F3 S3)
                        | (refine wpList_load_mid rfl 30 _ rfl b0 (o0 + k * 7) rfl (t.cells a1 c1) _ HT.out.2 Try.underlying30 rfl (by kernel_rfl) ?_)
                        | (refine wpList_allocZ rfl 30 rfl _ task_zero4 ?_; intro w2 B2 F2 S2; have HC1 := Lib.hid B2; have HF2 := Lib.hid F2; clear B2 F2 S2))
                      refine (taskR_calls (w := w3) (base := w.heap.size) (by have := HF3.out.size; omega) t a1 c1 (HRA.out.rd.fr0 HF3.out) (HQ.out.2.2.2.1 t HT.out.1) (by omega)).mono ?_
                      rintro e w4 ⟨u4, rfl, O4, F4⟩
                      obtain ⟨a4, k4, rfl, _, _, R4⟩ := O4.form
                      have HG4 := Lib.hid ((HG.out.fr0 HF3.out).fr0 F4)
                      have HK4 := Lib.hid ((HB.out.fr HF3.out (by simp)).fr F4 (by simp))
                      have HR4 := Lib.hid R4
                      have htl := Tas.enc_length t
                      have hz4 := HG4.out.2.1.size
                      clear O4 F4 R4
                      generalize t.enc = E at *
                      go_wp2_with (refine wpList_appB rfl _ _ 37 37 rfl w.heap.size 5 5 .u8 1 Try.underlying37 Try.underlying37 info_byte _ B.length (bv B) (by rfl) HG4.out.1 a4 E.length k4 (bv E) (by rfl) HR4.out (by simp) (bv_one _) (by simp only [maxLen]; omega) (by omega) (by omega) ?_; intro v5 w5 O5 F5 K5 _; have HG5 := Lib.hid (HG4.out.app O5 F5 K5); have HK5 := Lib.hid (HK4.out.fr F5 (HG4.out.ne HK4.out (by decide))); clear O5 F5 K5)
                      have HR := Lib.hid (show GrowR Tas.enc w b9 x.tasks (x.cells s) v5 (.int .i64 ((k + 1 : Nat) : Int)) w5 from ⟨k + 1, by omega, rfl, by rw [← HSN.out]; exact HG5.out, HK5.out⟩)
                      go_roundw
                      case rel => exact HR.out
                      case measure => simp [intOf] <;> omega
                    have hkl : k = x.tasks.length := by omega
                    subst hkl
                    rw [eachE_eq] at HG
                    generalize wr = w10 at *
                    have HG10 := HG
                    have HB10 := HB
                    have HE10 := Lib.hid HE9.out
                    rw [← List.append_assoc] at HE10
                    have HN10 := Lib.hid (show (b9 ++ eachE Tas.enc x.tasks).length ≤ 330000000 from by rw [List.length_append]; have := HN9.out; have := eachE_len Tas.enc (fun t : Tas => t.tickets.length) x.tasks (fun t _ => tEnc_len t); omega)
                    clear HG HB HE9 HN9 hge hk
                    generalize b9 ++ eachE Tas.enc x.tasks = b10 at *
                    have cl : w10.cell? ⟨w.heap.size, 6, none⟩ = some (.slice s.a4 x.leases.length s.c4) := HB10.out.cellAt rfl
                    have hBl := HN10.out
                    go_wp2_with fail
                    obtain ⟨css10, R10⟩ := (HR.out.fr0 HG10.out.2.1).l
                    refine (leasesR_calls (w := w10) (base := w.heap.size) HG10.out.2.1.size s.a4 s.c4 x.leases css10 R10 HQ.out.2.2.2.2.1 (by omega)).mono ?_
                    rintro e w11 ⟨u11, rfl, O11, F11⟩
                    obtain ⟨a11, k11, rfl, _, _, R11⟩ := O11.form
                    have HG11 := Lib.hid (HG10.out.fr0 F11)
                    have HB11 := Lib.hid (HB10.out.fr F11 (by simp))
                    have HR11 := Lib.hid R11
                    have hel := eachE_len Lea.enc (fun t => t.cores.length) x.leases (fun t _ => by have := Lea.enc_length t; omega)
                    have HE11 := Lib.hid HE10.out
                    rw [← List.append_assoc] at HE11
                    have hz11 := HG11.out.2.1.size
                    clear O11 F11 R11 R10 cl HG10 HB10 HE10
                    generalize eachE Lea.enc x.leases = E at *
                    go_wp2_with (refine wpList_appB rfl _ _ 37 37 rfl w.heap.size 5 5 .u8 1 Try.underlying37 Try.underlying37 info_byte _ b10.length (bv b10) (by rfl) HG11.out.1 a11 E.length k11 (bv E) (by rfl) HR11.out (by simp) (bv_one _) (by simp only [maxLen]; omega) (by omega) (by omega) ?_; intro v12 w12 O12 F12 K12 _; have HG12 := Lib.hid (HG11.out.app O12 F12 K12); have hb12 := HB11.out.fr F12 (HG11.out.ne HB11.out (by decide)); have cl : w12.cell? ⟨w.heap.size, 7, none⟩ = some (.slice s.a5 x.hungry.length s.c5) := hb12.cellAt rfl; have HB12 := Lib.hid hb12; clear O12 F12 K12 hb12)
                    have HN12 := Lib.hid (show (b10 ++ E).length ≤ 440000000 by rw [List.length_append]; omega)
                    have HE12 := HE11
                    have hlay : (layN x.hungry.length).length ≤ 9 := by rw [layN_length]; have := kl_le x.hungry.length; omega
                    have hBl := HN12.out
                    clear HG11 HB11 HR11 HE11 hel
                    generalize b10 ++ E = b12 at *
                    refine (count_calls_ref (w := w12) (base := w.heap.size) HG12.out.2.1.size x.hungry.length (by omega)).mono ?_
                    rintro e wb12 ⟨ub12, rfl, Ob12, Fb12⟩
                    obtain ⟨ab12, kb12, rfl, _, _, Rb12⟩ := Ob12.form
                    have HGb12 := Lib.hid (HG12.out.fr0 Fb12)
                    have HBb12 := Lib.hid (HB12.out.fr Fb12 (by simp))
                    have HRb12 := Lib.hid Rb12
                    have hzb := HGb12.out.2.1.size
                    clear Ob12 Fb12 Rb12 cl HG12 HB12
                    go_wp2_with (refine wpList_appB rfl _ _ 37 37 rfl w.heap.size 5 5 .u8 1 Try.underlying37 Try.underlying37 info_byte _ b12.length (bv b12) (by rfl) HGb12.out.1 ab12 (layN x.hungry.length).length kb12 (bv (layN x.hungry.length)) (by rfl) HRb12.out (by simp) (bv_one _) (by simp only [maxLen]; omega) (by omega) (by omega) ?_; intro vc12 wc12 Oc12 Fc12 Kc12 _; have HGc12 := Lib.hid (HGb12.out.app Oc12 Fc12 Kc12); have hbc := HBb12.out.fr Fc12 (HGb12.out.ne HBb12.out (by decide)); have clc : wc12.cell? ⟨w.heap.size, 7, none⟩ = some (.slice s.a5 x.hungry.length s.c5) := hbc.cellAt rfl; have HBc12 := Lib.hid hbc; clear Oc12 Fc12 Kc12 hbc)
                    have HRc := Lib.hid (show GrowR hEnc w b12 x.hungry (x.cells s) vc12 (.int .i64 (0 : Nat)) wc12 from ⟨0, Nat.zero_le _, rfl, by simpa using HGc12.out, HBc12.out⟩)
                    clear clc HGc12 HBc12 HGb12 HBb12 HRb12
                    go_loopw [7, 136] (fun v i wr => GrowR hEnc w b12 x.hungry (x.cells s) v i wr) (fun _ i _ => x.hungry.length - (intOf i).toNat)
                    case atStart => exact HRc.out
                    case round =>
                      obtain ⟨k, hk, rfl, hG, hB⟩ := hrel
                      have HG := Lib.hid hG
                      have HB := Lib.hid hB
                      clear hG hB HRc
                      rcases Nat.lt_or_ge k x.hungry.length with hlt | hge
                      · obtain ⟨t, ht⟩ : ∃ t, x.hungry[k]? = some t := ⟨x.hungry[k], List.getElem?_eq_getElem hlt⟩
                        have kb : (k : Int) < (x.hungry.length : Int) := by omega
                        obtain ⟨css, hrow⟩ := (HR.out.fr0 HG.out.2.1).h
                        obtain ⟨b0, o0, cs, ha0, hb0, hx0, hcl, hel, hrg⟩ := hrow.get (by decide) ht
                        have hsn : x.hungry.take (k + 1) = x.hungry.take k ++ [t] := by rw [List.take_add_one, ht]; rfl
                        have hfl := flatMap_len hEnc (fun _ => 1) (x.hungry.take k) (fun t ht => (fun t _ => hEnc_len t) t (List.mem_of_mem_take ht))
                        have hst := sum_take (fun t => (fun _ => 1) t + 10) x.hungry k t ht
                        have hbl : (b12 ++ layN x.hungry.length ++ (x.hungry.take k).flatMap hEnc).length ≤ 2000000000 := by simp only [List.length_append]; have := HN12.out; simp only at hst; omega
                        have hmx : 9 * ((fun _ => 1) t + 10) ≤ 2000000000 := by simp only at hst ⊢; omega
                        have htq := List.mem_of_getElem? ht
                        have HT := Lib.hid (And.intro htq hrg)
                        have HSN := Lib.hid (show b12 ++ layN x.hungry.length ++ (x.hungry.take k).flatMap hEnc ++ hEnc t = b12 ++ layN x.hungry.length ++ (x.hungry.take (k + 1)).flatMap hEnc by rw [hsn, List.flatMap_append, ← List.append_assoc]; simp)
                        have hz := HG.out.2.1.size
                        clear hfl hst htq hrg hcl ht hsn hrow
                        rw [ha0]
                        clear ha0
                        generalize b12 ++ layN x.hungry.length ++ (x.hungry.take k).flatMap hEnc = B at *
                        have hcs : cs = t.cells := hel
                        subst hcs
                        go_wp2_with (first
                          | (have z := HC1.out; clear z; refine wpList_storeB rfl 119 _ _ rfl wr.heap.size 0 (t.cells) (by rfl) (by rfl) 119 _ HC1.out (by show 0 + 2 ≤ 2; omega) (by kernel_rfl) (by simp [Value.oneCell', Hun.cells]) ?_; intro w3 B3 F3 S3; rw [splice_all _ _ (by rfl)] at B3; have f0 : w3.cell? ⟨wr.heap.size, 0, none⟩ = some (.int .i64 t.queue) := B3.cellAt rfl; have f1 : w3.cell? ⟨wr.heap.size, 1, none⟩ = some (.int .i64 t.since) := B3.cellAt rfl; have HF3 := Lib.hid (HF2.out.trans F3 (fun k hk hlt => by rw [List.mem_singleton.1 hk] at hlt; omega)); clear B3 F3 S3)
                          | (refine wpList_load_mid rfl 119 _ rfl b0 (o0 + k * 2) rfl (t.cells) _ HT.out.2 Try.underlying119 rfl (by kernel_rfl) ?_)
                          | (refine wpList_allocZ rfl 119 rfl _ hunger_zero3 ?_; intro w2 B2 F2 S2; have HC1 := Lib.hid B2; have HF2 := Lib.hid F2; clear B2 F2 S2)
                          | (refine wpList_buildN rfl 81 2 2 [(0, .tmp 142), (1, .tmp 144)] rfl [(0, .int .i64 t.queue), (1, .int .i64 t.since)] (by rfl) _ (buildI_2 t.queue t.since) ?_; intro w4 B4 F4 S4; have HB4 := Lib.hid B4; have HF4 := Lib.hid F4; clear B4 F4 S4))
                        have HG4 := Lib.hid ((HG.out.fr0 HF3.out).fr0 HF4.out)
                        have HK4 := Lib.hid ((HB.out.fr HF3.out (by simp)).fr HF4.out (by simp))
                        have hng : w3.heap.size ∉ ob _ := fun hm => by have := (HG.out.1.lt hm).2; have := HF3.out.size; omega
                        refine (put_calls (w := w4) (base := w.heap.size) HG4.out.2.1.size _ B HG4.out.1 _ 2 2 t.ints rfl (HB4.out.rdA hng) (HQ.out.2.2.2.2.2 t HT.out.1) (by omega)).mono ?_
                        rintro e w5 ⟨v5, rfl, O5, F5, K5⟩
                        have HR := Lib.hid (show GrowR hEnc w b12 x.hungry (x.cells s) v5 (.int .i64 ((k + 1 : Nat) : Int)) w5 from ⟨k + 1, by omega, rfl, by rw [← HSN.out]; exact HG4.out.put O5 F5 K5, HK4.out.fr F5 (HG4.out.ne HK4.out (by decide))⟩)
                        clear O5 F5 K5 f0 f1
                        go_wp2_with fail
                        go_roundw
                        case rel => exact HR.out
                        case measure => simp [intOf] <;> omega
                      have hkl : k = x.hungry.length := by omega
                      subst hkl
                      rw [eachE_eq] at HG
                      generalize wr = w13 at *
                      have HG13 := HG
                      have HB13 := HB
                      have HE13 := Lib.hid HE12.out
                      rw [← List.append_assoc] at HE13
                      have HN13 := Lib.hid (show (b12 ++ eachE hEnc x.hungry).length ≤ 550000000 from by rw [List.length_append]; have := HN12.out; have := eachE_len hEnc (fun _ => 1) x.hungry (fun t _ => hEnc_len t); omega)
                      clear HG HB HE12 HN12 hge hk
                      generalize b12 ++ eachE hEnc x.hungry = b13 at *
                      go_wp2_with fail
                      go_ret2
                      have h13 := HG13.out
                      have e13 := HE13.out
                      rw [List.append_nil] at e13
                      rw [e13] at h13
                      rw [HEN.out]
                      exact ⟨_, rfl, h13.1.base hbase, h13.2.1⟩
end Go.Fur
