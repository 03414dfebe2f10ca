/- The writer's lists of things: each: contract. -/
import Derived.Test.YtmdfipahbhbgjaaCmdW3
namespace Go.Fur
open Go Go.RowKit Go.Proofs
set_option linter.unusedVariables false
set_option linter.unusedSimpArgs false
/-- Things that lie in a row, k cells each. -/
structure RowA {τ : Type} (EL : World → (Nat → Prop) → List Value → τ → Prop) (k : Nat) (w : World) (X : Nat → Prop) (a : Option Addr) (l : List τ) (css : List (List Value)) : Prop where
  rd : RdA w X a (flat id css)
  len : css.length = l.length
  each : ∀ (i : Nat) cs t, css[i]? = some cs → l[i]? = some t → cs.length = k ∧ EL w X cs t
theorem RowA.all {τ : Type} {EL : World → (Nat → Prop) → List Value → τ → Prop} {k : Nat} {w : World} {X : Nat → Prop} {a : Option Addr} {l : List τ} {css : List (List Value)} (h : RowA EL k w X a l css) : ∀ cs ∈ css, (id cs).length = k := fun cs hm => by
  obtain ⟨i, hi⟩ := List.getElem?_of_mem hm
  have hlt := (List.getElem?_eq_some_iff.1 hi).1
  exact (h.each i cs _ hi (List.getElem?_eq_getElem (by rw [← h.len]; exact hlt))).1
theorem RowA.get {τ : Type} {EL : World → (Nat → Prop) → List Value → τ → Prop} {k : Nat} {w : World} {X : Nat → Prop} {a : Option Addr} {l : List τ} {css : List (List Value)} (h : RowA EL k w X a l css) (hk : 0 < k) {i : Nat} {t : τ} (ht : l[i]? = some t) :
    ∃ b o cs, a = some ⟨b, o, none⟩ ∧ b < w.heap.size ∧ ¬ X b ∧ cs.length = k ∧ EL w X cs t ∧ w.rangeAt b (o + i * k) cs := by
  have hlt := (List.getElem?_eq_some_iff.1 ht).1
  have hlt2 : i < css.length := by rw [h.len]; exact hlt
  have hcs : css[i]? = some (css[i]'hlt2) := List.getElem?_eq_getElem hlt2
  obtain ⟨h1, h2⟩ := h.each i _ t hcs ht
  have hfl := flat_length id k css h.all
  have hpc := flat_piece id k css h.all i _ hcs
  obtain ⟨b, o, ha, hx, hb, hr⟩ := h.rd (fun h0 => by
    rw [h0] at hfl
    have : 0 < css.length * k := Nat.mul_pos (by rw [h.len]; omega) hk
    simp at hfl
    omega)
  refine ⟨b, o, _, ha, hb, hx, h1, h2, fun j v hv => ?_⟩
  rw [Nat.add_assoc]
  refine hr (i * k + j) v ?_
  have hv' : (((flat id css).drop (i * k)).take k)[j]? = some v := by rw [hpc]; exact hv
  rw [List.getElem?_take] at hv'
  split at hv'
  · rwa [List.getElem?_drop] at hv'
  · cases hv'
theorem RowA.ws {τ : Type} {EL : World → (Nat → Prop) → List Value → τ → Prop} {k : Nat} {w w' : World} {p : Nat} {v v' : Value} {a : Option Addr} {l : List τ} {css : List (List Value)} (h : RowA EL k w (Wx p v) a l css) (s : WS p v w w' v')
    (hEL : ∀ W W' v v', WS p v W W' v' → ∀ cs t, EL W (Wx p v) cs t → EL W' (Wx p v') cs t) : RowA EL k w' (Wx p v') a l css :=
  ⟨s.rd h.rd, h.len, fun i cs t h1 h2 => ⟨(h.each i cs t h1 h2).1, hEL _ _ _ _ s _ _ (h.each i cs t h1 h2).2⟩⟩
/-- The bytes of a list, and the error behind it. -/
def eachE {τ : Type} (enc : τ → List Int) (l : List τ) : List Int := layN l.length ++ l.flatMap enc
def eachEr {τ : Type} (f : τ → Int → Int) (l : List τ) (er : Int) : Int := l.foldl (fun e t => f t e) (cntE l.length er)
theorem flatMap_len {τ : Type} (enc : τ → List Int) (me : τ → Nat) : ∀ (l : List τ) (_ : ∀ t ∈ l, (enc t).length ≤ 9 * (me t + 10)), (l.flatMap enc).length ≤ 9 * (l.map fun t => me t + 10).sum
  | [], _ => by simp
  | t :: l, h => by
    have h1 := h t List.mem_cons_self
    have h2 := flatMap_len enc me l (fun x hx => h x (List.mem_cons_of_mem _ hx))
    simp only [List.flatMap_cons, List.length_append, List.map_cons, List.sum_cons]
    omega
theorem sum_take {τ : Type} (f : τ → Nat) : ∀ (l : List τ) (k : Nat) (t : τ) (_ : l[k]? = some t), ((l.take k).map f).sum + f t ≤ (l.map f).sum
  | [], _, _, h => by simp at h
  | x :: l, 0, t, h => by
    simp at h
    subst h
    simp
  | x :: l, k + 1, t, h => by
    have := sum_take f l k t (by simpa using h)
    simp only [List.take_succ_cons, List.map_cons, List.sum_cons]
    omega
def EachW {τ : Type} (enc : τ → List Int) (f : τ → Int → Int) (w : World) (base p : Nat) (v : Value) (bs : List Int) (er : Int) (l : List τ) (i : Value) (wr : World) : Prop :=
  ∃ k : Nat, k ≤ l.length ∧ i = .int .i64 k ∧ ∃ v', Wr wr base p v' (bs ++ layN l.length ++ (l.take k).flatMap enc) ((l.take k).foldl (fun e t => f t e) er) ∧ WS p v w wr v'
theorem lease_zero : ∀ w, (zeroValue 124).run Try.prog w = .ok (.agg ([.int .i64 0, .int .i64 0, .int .i64 0, .slice none 0 0, .int .i64 0, .int .i64 0, .int .i64 0, .bool false] : List Value).toArray) w := fun w => by kernel_rfl
set_option maxRecDepth 100000 in
set_option maxHeartbeats 2000000 in
theorem eachL_calls {τ : Type} {EL : World → (Nat → Prop) → List Value → τ → Prop} {enc : τ → List Int} {erf : τ → Int → Int} {me : τ → Nat} {w : World} {base p : Nat} {v : Value} {bs : List Int} {er : Int} (h : Wr w base p v bs er) (hbw : base ≤ w.heap.size) (a : Option Addr) (c : Nat) (l : List τ) (css : List (List Value)) (hrow : RowA EL 8 w (Wx p v) a l css)
    (hEL : ∀ W W' v v', WS p v W W' v' → ∀ cs t, EL W (Wx p v) cs t → EL W' (Wx p v') cs t) (hone1 : ∀ w X cs t, EL w X cs t → ∀ u ∈ cs, u.oneCell' = true) (hlen : ∀ t ∈ l, (enc t).length ≤ 9 * (me t + 10)) (fv : Value) (hfv : fv = .func (.func 63) #[.pointer (some ⟨p, 0, none⟩)] #[])
    (hone : ∀ W v bs er cs t, Wr W base p v bs er → base ≤ W.heap.size → EL W (Wx p v) cs t → t ∈ l → bs.length + 9 * (me t + 10) ≤ 70368744177664 → Calls Try.prog 63 #[.pointer (some ⟨p, 0, none⟩), .agg cs.toArray] W (WrE base p v (bs ++ enc t) (erf t er) W))
    (hr : bs.length + 9 * ((l.map fun t => me t + 10).sum + 2) ≤ 70368744177664) (hn : l.length ≤ 70368744177664) :
    Calls Try.prog 62 #[.pointer (some ⟨p, 0, none⟩), .slice a l.length c, fv] w (WrE base p v (bs ++ eachE enc l) (eachEr erf l er) w) := by
  subst hfv
  have HH := Lib.hid h
  have HA := Lib.hid hrow
  have HE := Lib.hid hEL
  have HO := Lib.hid hone
  have H1 := Lib.hid hone1
  have HL := Lib.hid hlen
  have hlay : (layN l.length).length ≤ 9 := by rw [layN_length]; have := kl_le l.length; omega
  have HX := Lib.hid (show eachEr erf l er = l.foldl (fun e t => erf t e) (cntE l.length er) from rfl)
  have HY := Lib.hid (show eachE enc l = layN l.length ++ l.flatMap enc from rfl)
  clear h hrow hEL hone hone1 hlen
  go_enter Try.func62, Try.ntmps62
  go_wp2_with fail
  refine (count_calls HH.out l.length hn (by omega)).mono ?_
  rintro e w1 ⟨rfl, v1, hW1, hS1⟩
  generalize cntE l.length er = er1 at *
  have HR0 := Lib.hid (show EachW enc erf w base p v bs er1 l (.int .i64 (0 : Nat)) w1 from ⟨0, Nat.zero_le _, rfl, v1, by simpa using hW1, hS1⟩)
  clear hW1 hS1
  go_wp2_with fail
  go_loopw [14] (fun i wr => EachW enc erf w base p v bs er1 l i wr) (fun i _ => l.length - (intOf i).toNat)
  case atStart => exact HR0.out
  case round =>
    obtain ⟨k, hk, rfl, v2, hW, hS⟩ := hrel
    by_cases hlt : k < l.length
    · obtain ⟨t, ht⟩ : ∃ t, l[k]? = some t := ⟨l[k], List.getElem?_eq_getElem hlt⟩
      have kb : (k : Int) < (l.length : Int) := by omega
      obtain ⟨b, o, cs, rfl, hb, hx, hcl, hel, hrg⟩ := (HA.out.ws hS HE.out).get (by decide) ht
      have hm := List.mem_of_getElem? ht
      have hsn : l.take (k + 1) = l.take k ++ [t] := by rw [List.take_add_one, ht]; rfl
      have hfl := flatMap_len enc me (l.take k) (fun x hx => HL.out x (List.mem_of_mem_take hx))
      have hst := sum_take (fun t => me t + 10) l k t ht
      have hbl : (bs ++ layN l.length ++ (l.take k).flatMap enc).length + 9 * (me t + 10) ≤ 70368744177664 := by simp only [List.length_append]; omega
      have hbz : base ≤ wr.heap.size := Nat.le_trans hbw hS.fr.size
      have HN := Lib.hid hsn
      have HI := Lib.hid (And.intro hW (And.intro hS hel))
      have HC := Lib.hid (And.intro hcl hrg)
      have HM := Lib.hid hm
      clear hW hS hel hcl hrg hsn hfl hst hm ht
      go_wp2_with (first
        | (have z := HC2.out; clear z; refine wpList_loadB rfl 124 _ rfl wr.heap.size (by rfl) 124 _ _ HC2.out Try.underlying124 rfl (by rw [HC.out.1]; kernel_rfl) ?_)
        | (have z := HC1.out; clear z; refine wpList_storeB rfl 124 _ _ rfl wr.heap.size 0 cs (by rfl) (by rfl) 124 _ HC1.out (by rw [HC.out.1]; simp) (by rw [HC.out.1]; kernel_rfl) (H1.out _ _ _ _ HI.out.2.2) ?_; intro w3 B3 F3 S3; rw [splice_all _ _ (by rw [HC.out.1]; rfl)] at B3; have HC2 := Lib.hid B3; have HF3 := Lib.hid (HF2.out.trans F3 (fun k hk hlt => by rw [List.mem_singleton.1 hk] at hlt; omega)); clear B3 F3 S3)
        | (refine wpList_load_mid rfl 124 _ rfl b (o + k * 8) rfl cs _ HC.out.2 Try.underlying124 rfl (by rw [HC.out.1]; kernel_rfl) ?_)
        | (refine wpList_allocZ rfl 124 rfl _ lease_zero ?_; intro w2 B2 F2 S2; have HC1 := Lib.hid B2; have HF2 := Lib.hid F2; clear B2 F2 S2))
      have S3 := (HI.out.2.1).post HF3.out
      refine (HO.out w3 v2 _ _ cs t (HI.out.1.fr0 HF3.out) (by have := HF3.out.size; omega) (HE.out _ _ _ _ ((WS.refl p v2 wr).post HF3.out) _ _ HI.out.2.2) HM.out hbl).mono ?_
      rintro e w4 ⟨rfl, v4, hW4, hS4⟩
      have HR := Lib.hid (show EachW enc erf w base p v bs er1 l (.int .i64 ((k + 1 : Nat) : Int)) w4 from ⟨k + 1, by omega, rfl, v4, by rw [HN.out, List.flatMap_append, List.foldl_append, ← List.append_assoc]; simpa using hW4, S3.trans hS4⟩)
      clear hW4 hS4 S3
      go_wp2_with fail
      go_roundw
      case rel => exact HR.out
      case measure => simp [intOf] <;> omega
    · have hkl : k = l.length := by omega
      subst hkl
      rw [List.take_length, List.append_assoc, ← HY.out, ← HX.out] at hW
      have HR := Lib.hid (And.intro hW hS)
      clear hW hS
      go_wp2_with fail
      go_end0
      exact ⟨rfl, v2, HR.out.1, HR.out.2⟩
end Go.Fur
