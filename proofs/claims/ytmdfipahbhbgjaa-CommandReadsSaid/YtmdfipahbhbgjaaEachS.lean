/- The writer's lists of things: each for queues, nodes, tasks, hungers; a hunger: contracts. -/
import Derived.Test.YtmdfipahbhbgjaaEach
import Derived.Test.YtmdfipahbhbgjaaCmdE
namespace Go.Fur
open Go Go.RowKit Go.Proofs
set_option linter.unusedVariables false
set_option linter.unusedSimpArgs false
/-- A hunger. -/
structure Hun where
  queue : Int
  since : Int
def Hun.ints (q : Hun) : List Int := [q.queue, q.since]
def Hun.cells (q : Hun) : List Value := [.int .i64 q.queue, .int .i64 q.since]
def Hun.ok (q : Hun) : Prop := ∀ x ∈ q.ints, I64 x
theorem queue_zero3 : ∀ w, (zeroValue 25).run Try.prog w = .ok (.agg (que0.cells).toArray) w := fun w => by kernel_rfl
theorem node_zero3 : ∀ w, (zeroValue 27).run Try.prog w = .ok (.agg (nod0.cells).toArray) w := fun w => by kernel_rfl
theorem task_zero4 : ∀ w, (zeroValue 30).run Try.prog w = .ok (.agg (tas0.cells none 0).toArray) w := fun w => by kernel_rfl
theorem hunger_zero3 : ∀ w, (zeroValue 119).run Try.prog w = .ok (.agg ([.int .i64 0, .int .i64 0] : List Value).toArray) w := fun w => by kernel_rfl
set_option maxRecDepth 100000 in
set_option maxHeartbeats 2000000 in
theorem eachQ_calls {τ : Type} {EL : World → (Nat → Prop) → List Value → τ → Prop} {enc : τ → List Int} {erf : τ → Int → Int} {me : τ → Nat} {w : World} {base p : Nat} {v : Value} {bs : List Int} {er : Int} (h : Wr w base p v bs er) (hbw : base ≤ w.heap.size) (a : Option Addr) (c : Nat) (l : List τ) (css : List (List Value)) (hrow : RowA EL 7 w (Wx p v) a l css)
    (hEL : ∀ W W' v v', WS p v W W' v' → ∀ cs t, EL W (Wx p v) cs t → EL W' (Wx p v') cs t) (hone1 : ∀ w X cs t, EL w X cs t → ∀ u ∈ cs, u.oneCell' = true) (hlen : ∀ t ∈ l, (enc t).length ≤ 9 * (me t + 10)) (fv : Value) (hfv : fv = .func (.func 33) #[.pointer (some ⟨p, 0, none⟩)] #[])
    (hone : ∀ W v bs er cs t, Wr W base p v bs er → base ≤ W.heap.size → EL W (Wx p v) cs t → t ∈ l → bs.length + 9 * (me t + 10) ≤ 70368744177664 → Calls Try.prog 33 #[.pointer (some ⟨p, 0, none⟩), .agg cs.toArray] W (WrE base p v (bs ++ enc t) (erf t er) W))
    (hr : bs.length + 9 * ((l.map fun t => me t + 10).sum + 2) ≤ 70368744177664) (hn : l.length ≤ 70368744177664) :
    Calls Try.prog 68 #[.pointer (some ⟨p, 0, none⟩), .slice a l.length c, fv] w (WrE base p v (bs ++ eachE enc l) (eachEr erf l er) w) := by
  subst hfv
  have HH := Lib.hid h
  have HA := Lib.hid hrow
  have HE := Lib.hid hEL
  have HO := Lib.hid hone
  have H1 := Lib.hid hone1
  have HL := Lib.hid hlen
  have hlay : (layN l.length).length ≤ 9 := by rw [layN_length]; have := kl_le l.length; omega
  have HX := Lib.hid (show eachEr erf l er = l.foldl (fun e t => erf t e) (cntE l.length er) from rfl)
  have HY := Lib.hid (show eachE enc l = layN l.length ++ l.flatMap enc from rfl)
  clear h hrow hEL hone hone1 hlen
  go_enter Try.func68, Try.ntmps68
  go_wp2_with fail
  refine (count_calls HH.out l.length hn (by omega)).mono ?_
  rintro e w1 ⟨rfl, v1, hW1, hS1⟩
  generalize cntE l.length er = er1 at *
  have HR0 := Lib.hid (show EachW enc erf w base p v bs er1 l (.int .i64 (0 : Nat)) w1 from ⟨0, Nat.zero_le _, rfl, v1, by simpa using hW1, hS1⟩)
  clear hW1 hS1
  go_wp2_with fail
  go_loopw [14] (fun i wr => EachW enc erf w base p v bs er1 l i wr) (fun i _ => l.length - (intOf i).toNat)
  case atStart => exact HR0.out
  case round =>
    obtain ⟨k, hk, rfl, v2, hW, hS⟩ := hrel
    by_cases hlt : k < l.length
    · obtain ⟨t, ht⟩ : ∃ t, l[k]? = some t := ⟨l[k], List.getElem?_eq_getElem hlt⟩
      have kb : (k : Int) < (l.length : Int) := by omega
      obtain ⟨b, o, cs, rfl, hb, hx, hcl, hel, hrg⟩ := (HA.out.ws hS HE.out).get (by decide) ht
      have hm := List.mem_of_getElem? ht
      have hsn : l.take (k + 1) = l.take k ++ [t] := by rw [List.take_add_one, ht]; rfl
      have hfl := flatMap_len enc me (l.take k) (fun x hx => HL.out x (List.mem_of_mem_take hx))
      have hst := sum_take (fun t => me t + 10) l k t ht
      have hbl : (bs ++ layN l.length ++ (l.take k).flatMap enc).length + 9 * (me t + 10) ≤ 70368744177664 := by simp only [List.length_append]; omega
      have hbz : base ≤ wr.heap.size := Nat.le_trans hbw hS.fr.size
      have HN := Lib.hid hsn
      have HI := Lib.hid (And.intro hW (And.intro hS hel))
      have HC := Lib.hid (And.intro hcl hrg)
      have HM := Lib.hid hm
      clear hW hS hel hcl hrg hsn hfl hst hm ht
      go_wp2_with (first
        | (have z := HC2.out; clear z; refine wpList_loadB rfl 25 _ rfl wr.heap.size (by rfl) 25 _ _ HC2.out Try.underlying25 rfl (by rw [HC.out.1]; kernel_rfl) ?_)
        | (have z := HC1.out; clear z; refine wpList_storeB rfl 25 _ _ rfl wr.heap.size 0 cs (by rfl) (by rfl) 25 _ HC1.out (by rw [HC.out.1]; decide) (by rw [HC.out.1]; kernel_rfl) (H1.out _ _ _ _ HI.out.2.2) ?_; intro w3 B3 F3 S3; rw [splice_all _ _ (by rw [HC.out.1]; rfl)] at B3; have HC2 := Lib.hid B3; have HF3 := Lib.hid (HF2.out.trans F3 (fun k hk hlt => by rw [List.mem_singleton.1 hk] at hlt; omega)); clear B3 F3 S3)
        | (refine wpList_load_mid rfl 25 _ rfl b (o + k * 7) rfl cs _ HC.out.2 Try.underlying25 rfl (by rw [HC.out.1]; kernel_rfl) ?_)
        | (refine wpList_allocZ rfl 25 rfl _ queue_zero3 ?_; intro w2 B2 F2 S2; have HC1 := Lib.hid B2; have HF2 := Lib.hid F2; clear B2 F2 S2))
      have S3 := (HI.out.2.1).post HF3.out
      refine (HO.out w3 v2 _ _ cs t (HI.out.1.fr0 HF3.out) (by have := HF3.out.size; omega) (HE.out _ _ _ _ ((WS.refl p v2 wr).post HF3.out) _ _ HI.out.2.2) HM.out hbl).mono ?_
      rintro e w4 ⟨rfl, v4, hW4, hS4⟩
      have HR := Lib.hid (show EachW enc erf w base p v bs er1 l (.int .i64 ((k + 1 : Nat) : Int)) w4 from ⟨k + 1, by omega, rfl, v4, by rw [HN.out, List.flatMap_append, List.foldl_append, ← List.append_assoc]; simpa using hW4, S3.trans hS4⟩)
      clear hW4 hS4 S3
      go_wp2_with fail
      go_roundw
      case rel => exact HR.out
      case measure => simp [intOf] <;> omega
    · have hkl : k = l.length := by omega
      subst hkl
      rw [List.take_length, List.append_assoc, ← HY.out, ← HX.out] at hW
      have HR := Lib.hid (And.intro hW hS)
      clear hW hS
      go_wp2_with fail
      go_end0
      exact ⟨rfl, v2, HR.out.1, HR.out.2⟩
set_option maxRecDepth 100000 in
set_option maxHeartbeats 2000000 in
theorem eachN_calls {τ : Type} {EL : World → (Nat → Prop) → List Value → τ → Prop} {enc : τ → List Int} {erf : τ → Int → Int} {me : τ → Nat} {w : World} {base p : Nat} {v : Value} {bs : List Int} {er : Int} (h : Wr w base p v bs er) (hbw : base ≤ w.heap.size) (a : Option Addr) (c : Nat) (l : List τ) (css : List (List Value)) (hrow : RowA EL 5 w (Wx p v) a l css)
    (hEL : ∀ W W' v v', WS p v W W' v' → ∀ cs t, EL W (Wx p v) cs t → EL W' (Wx p v') cs t) (hone1 : ∀ w X cs t, EL w X cs t → ∀ u ∈ cs, u.oneCell' = true) (hlen : ∀ t ∈ l, (enc t).length ≤ 9 * (me t + 10)) (fv : Value) (hfv : fv = .func (.func 34) #[.pointer (some ⟨p, 0, none⟩)] #[])
    (hone : ∀ W v bs er cs t, Wr W base p v bs er → base ≤ W.heap.size → EL W (Wx p v) cs t → t ∈ l → bs.length + 9 * (me t + 10) ≤ 70368744177664 → Calls Try.prog 34 #[.pointer (some ⟨p, 0, none⟩), .agg cs.toArray] W (WrE base p v (bs ++ enc t) (erf t er) W))
    (hr : bs.length + 9 * ((l.map fun t => me t + 10).sum + 2) ≤ 70368744177664) (hn : l.length ≤ 70368744177664) :
    Calls Try.prog 69 #[.pointer (some ⟨p, 0, none⟩), .slice a l.length c, fv] w (WrE base p v (bs ++ eachE enc l) (eachEr erf l er) w) := by
  subst hfv
  have HH := Lib.hid h
  have HA := Lib.hid hrow
  have HE := Lib.hid hEL
  have HO := Lib.hid hone
  have H1 := Lib.hid hone1
  have HL := Lib.hid hlen
  have hlay : (layN l.length).length ≤ 9 := by rw [layN_length]; have := kl_le l.length; omega
  have HX := Lib.hid (show eachEr erf l er = l.foldl (fun e t => erf t e) (cntE l.length er) from rfl)
  have HY := Lib.hid (show eachE enc l = layN l.length ++ l.flatMap enc from rfl)
  clear h hrow hEL hone hone1 hlen
  go_enter Try.func69, Try.ntmps69
  go_wp2_with fail
  refine (count_calls HH.out l.length hn (by omega)).mono ?_
  rintro e w1 ⟨rfl, v1, hW1, hS1⟩
  generalize cntE l.length er = er1 at *
  have HR0 := Lib.hid (show EachW enc erf w base p v bs er1 l (.int .i64 (0 : Nat)) w1 from ⟨0, Nat.zero_le _, rfl, v1, by simpa using hW1, hS1⟩)
  clear hW1 hS1
  go_wp2_with fail
  go_loopw [14] (fun i wr => EachW enc erf w base p v bs er1 l i wr) (fun i _ => l.length - (intOf i).toNat)
  case atStart => exact HR0.out
  case round =>
    obtain ⟨k, hk, rfl, v2, hW, hS⟩ := hrel
    by_cases hlt : k < l.length
    · obtain ⟨t, ht⟩ : ∃ t, l[k]? = some t := ⟨l[k], List.getElem?_eq_getElem hlt⟩
      have kb : (k : Int) < (l.length : Int) := by omega
      obtain ⟨b, o, cs, rfl, hb, hx, hcl, hel, hrg⟩ := (HA.out.ws hS HE.out).get (by decide) ht
      have hm := List.mem_of_getElem? ht
      have hsn : l.take (k + 1) = l.take k ++ [t] := by rw [List.take_add_one, ht]; rfl
      have hfl := flatMap_len enc me (l.take k) (fun x hx => HL.out x (List.mem_of_mem_take hx))
      have hst := sum_take (fun t => me t + 10) l k t ht
      have hbl : (bs ++ layN l.length ++ (l.take k).flatMap enc).length + 9 * (me t + 10) ≤ 70368744177664 := by simp only [List.length_append]; omega
      have hbz : base ≤ wr.heap.size := Nat.le_trans hbw hS.fr.size
      have HN := Lib.hid hsn
      have HI := Lib.hid (And.intro hW (And.intro hS hel))
      have HC := Lib.hid (And.intro hcl hrg)
      have HM := Lib.hid hm
      clear hW hS hel hcl hrg hsn hfl hst hm ht
      go_wp2_with (first
        | (have z := HC2.out; clear z; refine wpList_loadB rfl 27 _ rfl wr.heap.size (by rfl) 27 _ _ HC2.out Try.underlying27 rfl (by rw [HC.out.1]; kernel_rfl) ?_)
        | (have z := HC1.out; clear z; refine wpList_storeB rfl 27 _ _ rfl wr.heap.size 0 cs (by rfl) (by rfl) 27 _ HC1.out (by rw [HC.out.1]; decide) (by rw [HC.out.1]; kernel_rfl) (H1.out _ _ _ _ HI.out.2.2) ?_; intro w3 B3 F3 S3; rw [splice_all _ _ (by rw [HC.out.1]; rfl)] at B3; have HC2 := Lib.hid B3; have HF3 := Lib.hid (HF2.out.trans F3 (fun k hk hlt => by rw [List.mem_singleton.1 hk] at hlt; omega)); clear B3 F3 S3)
        | (refine wpList_load_mid rfl 27 _ rfl b (o + k * 5) rfl cs _ HC.out.2 Try.underlying27 rfl (by rw [HC.out.1]; kernel_rfl) ?_)
        | (refine wpList_allocZ rfl 27 rfl _ node_zero3 ?_; intro w2 B2 F2 S2; have HC1 := Lib.hid B2; have HF2 := Lib.hid F2; clear B2 F2 S2))
      have S3 := (HI.out.2.1).post HF3.out
      refine (HO.out w3 v2 _ _ cs t (HI.out.1.fr0 HF3.out) (by have := HF3.out.size; omega) (HE.out _ _ _ _ ((WS.refl p v2 wr).post HF3.out) _ _ HI.out.2.2) HM.out hbl).mono ?_
      rintro e w4 ⟨rfl, v4, hW4, hS4⟩
      have HR := Lib.hid (show EachW enc erf w base p v bs er1 l (.int .i64 ((k + 1 : Nat) : Int)) w4 from ⟨k + 1, by omega, rfl, v4, by rw [HN.out, List.flatMap_append, List.foldl_append, ← List.append_assoc]; simpa using hW4, S3.trans hS4⟩)
      clear hW4 hS4 S3
      go_wp2_with fail
      go_roundw
      case rel => exact HR.out
      case measure => simp [intOf] <;> omega
    · have hkl : k = l.length := by omega
      subst hkl
      rw [List.take_length, List.append_assoc, ← HY.out, ← HX.out] at hW
      have HR := Lib.hid (And.intro hW hS)
      clear hW hS
      go_wp2_with fail
      go_end0
      exact ⟨rfl, v2, HR.out.1, HR.out.2⟩
set_option maxRecDepth 100000 in
set_option maxHeartbeats 2000000 in
theorem eachT_calls {τ : Type} {EL : World → (Nat → Prop) → List Value → τ → Prop} {enc : τ → List Int} {erf : τ → Int → Int} {me : τ → Nat} {w : World} {base p : Nat} {v : Value} {bs : List Int} {er : Int} (h : Wr w base p v bs er) (hbw : base ≤ w.heap.size) (a : Option Addr) (c : Nat) (l : List τ) (css : List (List Value)) (hrow : RowA EL 7 w (Wx p v) a l css)
    (hEL : ∀ W W' v v', WS p v W W' v' → ∀ cs t, EL W (Wx p v) cs t → EL W' (Wx p v') cs t) (hone1 : ∀ w X cs t, EL w X cs t → ∀ u ∈ cs, u.oneCell' = true) (hlen : ∀ t ∈ l, (enc t).length ≤ 9 * (me t + 10)) (fv : Value) (hfv : fv = .func (.func 35) #[.pointer (some ⟨p, 0, none⟩)] #[])
    (hone : ∀ W v bs er cs t, Wr W base p v bs er → base ≤ W.heap.size → EL W (Wx p v) cs t → t ∈ l → bs.length + 9 * (me t + 10) ≤ 70368744177664 → Calls Try.prog 35 #[.pointer (some ⟨p, 0, none⟩), .agg cs.toArray] W (WrE base p v (bs ++ enc t) (erf t er) W))
    (hr : bs.length + 9 * ((l.map fun t => me t + 10).sum + 2) ≤ 70368744177664) (hn : l.length ≤ 70368744177664) :
    Calls Try.prog 70 #[.pointer (some ⟨p, 0, none⟩), .slice a l.length c, fv] w (WrE base p v (bs ++ eachE enc l) (eachEr erf l er) w) := by
  subst hfv
  have HH := Lib.hid h
  have HA := Lib.hid hrow
  have HE := Lib.hid hEL
  have HO := Lib.hid hone
  have H1 := Lib.hid hone1
  have HL := Lib.hid hlen
  have hlay : (layN l.length).length ≤ 9 := by rw [layN_length]; have := kl_le l.length; omega
  have HX := Lib.hid (show eachEr erf l er = l.foldl (fun e t => erf t e) (cntE l.length er) from rfl)
  have HY := Lib.hid (show eachE enc l = layN l.length ++ l.flatMap enc from rfl)
  clear h hrow hEL hone hone1 hlen
  go_enter Try.func70, Try.ntmps70
  go_wp2_with fail
  refine (count_calls HH.out l.length hn (by omega)).mono ?_
  rintro e w1 ⟨rfl, v1, hW1, hS1⟩
  generalize cntE l.length er = er1 at *
  have HR0 := Lib.hid (show EachW enc erf w base p v bs er1 l (.int .i64 (0 : Nat)) w1 from ⟨0, Nat.zero_le _, rfl, v1, by simpa using hW1, hS1⟩)
  clear hW1 hS1
  go_wp2_with fail
  go_loopw [14] (fun i wr => EachW enc erf w base p v bs er1 l i wr) (fun i _ => l.length - (intOf i).toNat)
  case atStart => exact HR0.out
  case round =>
    obtain ⟨k, hk, rfl, v2, hW, hS⟩ := hrel
    by_cases hlt : k < l.length
    · obtain ⟨t, ht⟩ : ∃ t, l[k]? = some t := ⟨l[k], List.getElem?_eq_getElem hlt⟩
      have kb : (k : Int) < (l.length : Int) := by omega
      obtain ⟨b, o, cs, rfl, hb, hx, hcl, hel, hrg⟩ := (HA.out.ws hS HE.out).get (by decide) ht
      have hm := List.mem_of_getElem? ht
      have hsn : l.take (k + 1) = l.take k ++ [t] := by rw [List.take_add_one, ht]; rfl
      have hfl := flatMap_len enc me (l.take k) (fun x hx => HL.out x (List.mem_of_mem_take hx))
      have hst := sum_take (fun t => me t + 10) l k t ht
      have hbl : (bs ++ layN l.length ++ (l.take k).flatMap enc).length + 9 * (me t + 10) ≤ 70368744177664 := by simp only [List.length_append]; omega
      have hbz : base ≤ wr.heap.size := Nat.le_trans hbw hS.fr.size
      have HN := Lib.hid hsn
      have HI := Lib.hid (And.intro hW (And.intro hS hel))
      have HC := Lib.hid (And.intro hcl hrg)
      have HM := Lib.hid hm
      clear hW hS hel hcl hrg hsn hfl hst hm ht
      go_wp2_with (first
        | (have z := HC2.out; clear z; refine wpList_loadB rfl 30 _ rfl wr.heap.size (by rfl) 30 _ _ HC2.out Try.underlying30 rfl (by rw [HC.out.1]; kernel_rfl) ?_)
        | (have z := HC1.out; clear z; refine wpList_storeB rfl 30 _ _ rfl wr.heap.size 0 cs (by rfl) (by rfl) 30 _ HC1.out (by rw [HC.out.1]; decide) (by rw [HC.out.1]; kernel_rfl) (H1.out _ _ _ _ HI.out.2.2) ?_; intro w3 B3 F3 S3; rw [splice_all _ _ (by rw [HC.out.1]; rfl)] at B3; have HC2 := Lib.hid B3; have HF3 := Lib.hid (HF2.out.trans F3 (fun k hk hlt => by rw [List.mem_singleton.1 hk] at hlt; omega)); clear B3 F3 S3)
        | (refine wpList_load_mid rfl 30 _ rfl b (o + k * 7) rfl cs _ HC.out.2 Try.underlying30 rfl (by rw [HC.out.1]; kernel_rfl) ?_)
        | (refine wpList_allocZ rfl 30 rfl _ task_zero4 ?_; intro w2 B2 F2 S2; have HC1 := Lib.hid B2; have HF2 := Lib.hid F2; clear B2 F2 S2))
      have S3 := (HI.out.2.1).post HF3.out
      refine (HO.out w3 v2 _ _ cs t (HI.out.1.fr0 HF3.out) (by have := HF3.out.size; omega) (HE.out _ _ _ _ ((WS.refl p v2 wr).post HF3.out) _ _ HI.out.2.2) HM.out hbl).mono ?_
      rintro e w4 ⟨rfl, v4, hW4, hS4⟩
      have HR := Lib.hid (show EachW enc erf w base p v bs er1 l (.int .i64 ((k + 1 : Nat) : Int)) w4 from ⟨k + 1, by omega, rfl, v4, by rw [HN.out, List.flatMap_append, List.foldl_append, ← List.append_assoc]; simpa using hW4, S3.trans hS4⟩)
      clear hW4 hS4 S3
      go_wp2_with fail
      go_roundw
      case rel => exact HR.out
      case measure => simp [intOf] <;> omega
    · have hkl : k = l.length := by omega
      subst hkl
      rw [List.take_length, List.append_assoc, ← HY.out, ← HX.out] at hW
      have HR := Lib.hid (And.intro hW hS)
      clear hW hS
      go_wp2_with fail
      go_end0
      exact ⟨rfl, v2, HR.out.1, HR.out.2⟩
set_option maxRecDepth 100000 in
set_option maxHeartbeats 2000000 in
theorem eachH_calls {τ : Type} {EL : World → (Nat → Prop) → List Value → τ → Prop} {enc : τ → List Int} {erf : τ → Int → Int} {me : τ → Nat} {w : World} {base p : Nat} {v : Value} {bs : List Int} {er : Int} (h : Wr w base p v bs er) (hbw : base ≤ w.heap.size) (a : Option Addr) (c : Nat) (l : List τ) (css : List (List Value)) (hrow : RowA EL 2 w (Wx p v) a l css)
    (hEL : ∀ W W' v v', WS p v W W' v' → ∀ cs t, EL W (Wx p v) cs t → EL W' (Wx p v') cs t) (hone1 : ∀ w X cs t, EL w X cs t → ∀ u ∈ cs, u.oneCell' = true) (hlen : ∀ t ∈ l, (enc t).length ≤ 9 * (me t + 10)) (fv : Value) (q : Nat) (hfv : fv = .func (.func 72) #[] #[.pointer (some ⟨q, 0, none⟩)])
    (hone : ∀ W v bs er cs t, Wr W base p v bs er → base ≤ W.heap.size → EL W (Wx p v) cs t → t ∈ l → bs.length + 9 * (me t + 10) ≤ 70368744177664 → Calls Try.prog 72 #[.agg cs.toArray, .pointer (some ⟨q, 0, none⟩)] W (WrE base p v (bs ++ enc t) (erf t er) W))
    (hr : bs.length + 9 * ((l.map fun t => me t + 10).sum + 2) ≤ 70368744177664) (hn : l.length ≤ 70368744177664) :
    Calls Try.prog 71 #[.pointer (some ⟨p, 0, none⟩), .slice a l.length c, fv] w (WrE base p v (bs ++ eachE enc l) (eachEr erf l er) w) := by
  subst hfv
  have HH := Lib.hid h
  have HA := Lib.hid hrow
  have HE := Lib.hid hEL
  have HO := Lib.hid hone
  have H1 := Lib.hid hone1
  have HL := Lib.hid hlen
  have hlay : (layN l.length).length ≤ 9 := by rw [layN_length]; have := kl_le l.length; omega
  have HX := Lib.hid (show eachEr erf l er = l.foldl (fun e t => erf t e) (cntE l.length er) from rfl)
  have HY := Lib.hid (show eachE enc l = layN l.length ++ l.flatMap enc from rfl)
  clear h hrow hEL hone hone1 hlen
  go_enter Try.func71, Try.ntmps71
  go_wp2_with fail
  refine (count_calls HH.out l.length hn (by omega)).mono ?_
  rintro e w1 ⟨rfl, v1, hW1, hS1⟩
  generalize cntE l.length er = er1 at *
  have HR0 := Lib.hid (show EachW enc erf w base p v bs er1 l (.int .i64 (0 : Nat)) w1 from ⟨0, Nat.zero_le _, rfl, v1, by simpa using hW1, hS1⟩)
  clear hW1 hS1
  go_wp2_with fail
  go_loopw [14] (fun i wr => EachW enc erf w base p v bs er1 l i wr) (fun i _ => l.length - (intOf i).toNat)
  case atStart => exact HR0.out
  case round =>
    obtain ⟨k, hk, rfl, v2, hW, hS⟩ := hrel
    by_cases hlt : k < l.length
    · obtain ⟨t, ht⟩ : ∃ t, l[k]? = some t := ⟨l[k], List.getElem?_eq_getElem hlt⟩
      have kb : (k : Int) < (l.length : Int) := by omega
      obtain ⟨b, o, cs, rfl, hb, hx, hcl, hel, hrg⟩ := (HA.out.ws hS HE.out).get (by decide) ht
      have hm := List.mem_of_getElem? ht
      have hsn : l.take (k + 1) = l.take k ++ [t] := by rw [List.take_add_one, ht]; rfl
      have hfl := flatMap_len enc me (l.take k) (fun x hx => HL.out x (List.mem_of_mem_take hx))
      have hst := sum_take (fun t => me t + 10) l k t ht
      have hbl : (bs ++ layN l.length ++ (l.take k).flatMap enc).length + 9 * (me t + 10) ≤ 70368744177664 := by simp only [List.length_append]; omega
      have hbz : base ≤ wr.heap.size := Nat.le_trans hbw hS.fr.size
      have HN := Lib.hid hsn
      have HI := Lib.hid (And.intro hW (And.intro hS hel))
      have HC := Lib.hid (And.intro hcl hrg)
      have HM := Lib.hid hm
      clear hW hS hel hcl hrg hsn hfl hst hm ht
      go_wp2_with (first
        | (have z := HC2.out; clear z; refine wpList_loadB rfl 119 _ rfl wr.heap.size (by rfl) 119 _ _ HC2.out Try.underlying119 rfl (by rw [HC.out.1]; kernel_rfl) ?_)
        | (have z := HC1.out; clear z; refine wpList_storeB rfl 119 _ _ rfl wr.heap.size 0 cs (by rfl) (by rfl) 119 _ HC1.out (by rw [HC.out.1]; decide) (by rw [HC.out.1]; kernel_rfl) (H1.out _ _ _ _ HI.out.2.2) ?_; intro w3 B3 F3 S3; rw [splice_all _ _ (by rw [HC.out.1]; rfl)] at B3; have HC2 := Lib.hid B3; have HF3 := Lib.hid (HF2.out.trans F3 (fun k hk hlt => by rw [List.mem_singleton.1 hk] at hlt; omega)); clear B3 F3 S3)
        | (refine wpList_load_mid rfl 119 _ rfl b (o + k * 2) rfl cs _ HC.out.2 Try.underlying119 rfl (by rw [HC.out.1]; kernel_rfl) ?_)
        | (refine wpList_allocZ rfl 119 rfl _ hunger_zero3 ?_; intro w2 B2 F2 S2; have HC1 := Lib.hid B2; have HF2 := Lib.hid F2; clear B2 F2 S2))
      have S3 := (HI.out.2.1).post HF3.out
      refine (HO.out w3 v2 _ _ cs t (HI.out.1.fr0 HF3.out) (by have := HF3.out.size; omega) (HE.out _ _ _ _ ((WS.refl p v2 wr).post HF3.out) _ _ HI.out.2.2) HM.out hbl).mono ?_
      rintro e w4 ⟨rfl, v4, hW4, hS4⟩
      have HR := Lib.hid (show EachW enc erf w base p v bs er1 l (.int .i64 ((k + 1 : Nat) : Int)) w4 from ⟨k + 1, by omega, rfl, v4, by rw [HN.out, List.flatMap_append, List.foldl_append, ← List.append_assoc]; simpa using hW4, S3.trans hS4⟩)
      clear hW4 hS4 S3
      go_wp2_with fail
      go_roundw
      case rel => exact HR.out
      case measure => simp [intOf] <;> omega
    · have hkl : k = l.length := by omega
      subst hkl
      rw [List.take_length, List.append_assoc, ← HY.out, ← HX.out] at hW
      have HR := Lib.hid (And.intro hW hS)
      clear hW hS
      go_wp2_with fail
      go_end0
      exact ⟨rfl, v2, HR.out.1, HR.out.2⟩
/-- Where the writer stands. -/
def PwAt (w : World) (X : Nat → Prop) (q p : Nat) : Prop := Blk w q 70 [.pointer (some ⟨p, 0, none⟩)] ∧ ¬ X q
def HunAt (q p : Nat) (w : World) (X : Nat → Prop) (cs : List Value) (t : Hun) : Prop := cs = t.cells ∧ PwAt w X q p
theorem PwAt.ws {q p : Nat} (W W' : World) (v v' : Value) (s : WS p v W W' v') (h : PwAt W (Wx p v) q p) : PwAt W' (Wx p v') q p := by
  obtain ⟨h1, h2⟩ := h
  have hne : q ≠ p ∧ q ∉ ob v := ⟨fun h => h2 (.inl h), fun h => h2 (.inr h)⟩
  refine ⟨s.blk h1 hne.1 hne.2, fun hx => ?_⟩
  rcases hx with hx | hx
  · exact hne.1 hx
  · rcases s.sub q hx with h | h
    · exact hne.2 h
    · have := h1.lt
      omega
set_option maxRecDepth 100000 in
set_option maxHeartbeats 1000000 in
theorem hun_calls {w : World} {base p : Nat} {v : Value} {bs : List Int} {er : Int} (h : Wr w base p v bs er) (hbw : base ≤ w.heap.size) (q : Nat) (cs : List Value) (t : Hun) (ht : HunAt q p w (Wx p v) cs t) (hok : t.ok) (hr : bs.length + 90 ≤ 70368744177664) :
    Calls Try.prog 72 #[.agg cs.toArray, .pointer (some ⟨q, 0, none⟩)] w (WrE base p v (bs ++ intsE t.ints) er w) := by
  obtain ⟨rfl, hb, hx⟩ := ht
  have HH := Lib.hid h
  have HQ := Lib.hid hok
  have HB := Lib.hid hb
  have hpl := h.hp.lt
  clear h hok hb
  go_enter Try.func72, Try.ntmps72
  go_wp2_with (first
    | (refine wpList_boxB rfl 119 _ rfl t.cells (by rfl) ?_; intro w1 B1 F1 S1; have c0 : w1.cell? ⟨w.heap.size, 0, none⟩ = some (.int .i64 t.queue) := B1.cellAt rfl; have c1 : w1.cell? ⟨w.heap.size, 1, none⟩ = some (.int .i64 t.since) := B1.cellAt rfl; have cp : w1.cell? ⟨q, 0, none⟩ = some (.pointer (some ⟨p, 0, none⟩)) := (HB.out.fr F1 (by simp)).cellAt rfl; have HF1 := Lib.hid F1; have HS1 := Lib.hid S1; clear B1 F1 S1)
    | (refine wpList_buildN rfl 81 2 2 [(0, .tmp 5), (1, .tmp 7)] rfl [(0, .int .i64 t.queue), (1, .int .i64 t.since)] (by rfl) _ (buildI_2 t.queue t.since) ?_; intro w2 B2 F2 S2; have HB2 := Lib.hid B2; have HF2 := Lib.hid F2; clear B2 F2 S2))
  have FF := HF1.out.trans0 HF2.out
  have hap := HH.out.ap (g := w1.heap.size) (by have := HS1.out; omega)
  refine (int_calls (HH.out.fr0 FF) (by have := FF.size; omega) w1.heap.size 2 t.ints HB2.out hap.1 hap.2 2 rfl HQ.out (by omega)).mono ?_
  rintro e w3 ⟨rfl, v3, hW3, hS3⟩
  have HR := Lib.hid (And.intro hW3 (hS3.pre FF))
  clear hW3 hS3 FF
  go_wp2_with fail
  go_end0
  exact ⟨rfl, v3, HR.out.1, HR.out.2⟩
end Go.Fur
