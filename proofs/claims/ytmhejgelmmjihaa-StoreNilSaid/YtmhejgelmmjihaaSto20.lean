/- A store by what it holds, apart from given blocks. -/
import Derived.Test.YtmhejgelmmjihaaSto18
namespace Go.Fur
open Go Go.RowKit Go.Proofs
set_option linter.unusedVariables false
set_option linter.unusedSimpArgs false
/-- The same, its blocks apart from A. -/
def Sd2 (A : Nat → Prop) (W : World) (N n p bb q : Nat) (whole : Bool) (snap : List Int) (lst : List (List Int)) (w : World) : Prop :=
  ∃ lv tl d s, Fr [] W w ∧ StoAt w W.heap.size p bb q lv tl d s ∧ Desk d s whole snap lst ∧ (s.gen ≤ N + 1 ∧ s.life ≤ N + 1 ∧ d.loose.length ≤ N * 3000 ∧ lst.length ≤ N) ∧ d.now.length = n ∧ ∀ k, stoX p bb q lv tl k → ¬ A k
theorem Sd2.sd {A : Nat → Prop} {W w : World} {N n p bb q : Nat} {whole : Bool} {snap : List Int} {lst : List (List Int)} (h : Sd2 A W N n p bb q whole snap lst w) : Sd W N n p bb q whole snap lst w := by
  obtain ⟨lv, tl, d, s, h1, h2, h3, h4, h5, h6⟩ := h
  exact ⟨lv, tl, d, s, h1, h2, h3, h4, h5⟩
/-- What is new is apart. -/
theorem Sd.apart {W w w' : World} {N n p bb q : Nat} {whole : Bool} {snap : List Int} {lst : List (List Int)} (h : Sd W N n p bb q whole snap lst w) (f : Fr [] w w') : Sd2 (fun k => w.heap.size ≤ k) W N n p bb q whole snap lst w' := by
  obtain ⟨lv, tl, d, s, h1, h2, h3, h4, h5⟩ := h
  exact ⟨lv, tl, d, s, h1.trans0 f, h2.fr0 f, h3, h4, h5, fun k hk hA => by have := (stoX_ge h2 hk).2; omega⟩
theorem Sd2.less {A B : Nat → Prop} {W w : World} {N n p bb q : Nat} {whole : Bool} {snap : List Int} {lst : List (List Int)} (h : Sd2 A W N n p bb q whole snap lst w) (hB : ∀ k, B k → A k) : Sd2 B W N n p bb q whole snap lst w := by
  obtain ⟨lv, tl, d, s, h1, h2, h3, h4, h5, h6⟩ := h
  exact ⟨lv, tl, d, s, h1, h2, h3, h4, h5, fun k hk hb => h6 k hk (hB k hb)⟩
theorem Own.stp {X : Nat → Prop} {w w' : World} {base n size : Nat} {e : TypeId} {v : Value} {cs : List Value} (h : Own w base e size v n cs) (f : Stp X w w') (hX : ∀ k ∈ ob v, ¬ X k) : Own w' base e size v n cs := by
  obtain ⟨T, f, hT⟩ := f
  exact h.fr f (fun g hg hm => (hT g hm).elim (hX g hg) (fun hs => by have := (h.lt hg).2; omega))
theorem Sd2.fr {A : Nat → Prop} {W w : World} {N n p bb q : Nat} {whole : Bool} {snap : List Int} {lst : List (List Int)} (h : Sd2 A W N n p bb q whole snap lst w) : Fr [] W w := h.sd.fr
theorem Sd2.append {A : Nat → Prop} {W w : World} {N n p bb q : Nat} {whole : Bool} {snap : List Int} {lst : List (List Int)} (h : Sd2 A W N n p bb q whole snap lst w) (hA : ∀ k, A k → k < w.heap.size) (hN : N ≤ 1000) (hn : 80 ≤ n) (hn2 : n ≤ 5000) (a : Option Addr) (m c : Nat) (l : List Int) (hm : l.length = m) (hr : Rd w a (bv l)) (hl : Byt l) (h6 : l.length ≤ 65536) (hfit : (snap ++ encs lst).length + l.length + 1028 ≤ 16 * n) :
    Calls Try.prog 12 #[.pointer (some ⟨q, 0, none⟩), .slice a m c] w fun e w' => e = .returned (.int .i64 0) ∧ Sd2 A W (N + 1) n p bb q whole snap (lst ++ [l]) w' ∧ Stp (fun k => ¬ A k) w w' := by
  obtain ⟨lv, tl, d, s, h1, h2, h3, h4, h5, hap⟩ := h
  have hlen := h3.pos.len
  have hsh := h3.short
  have hle := h3.pos.le
  have hcnt := h3.cnt
  have hhf := halfP_le h2.da.wf
  have hh2 : 2 * halfP d + 3 ≥ n := by unfold halfP; omega
  have hh3 : 2 * halfP d ≤ n := by unfold halfP; omega
  have hft : fitsB d s (l.length + 4) = true := by
    unfold fitsB
    rw [decide_eq_true_iff]
    omega
  obtain ⟨e1, e2, e3, e4, e5, e6, e7, e8⟩ := h3.append h2.g32 h2.l32 (p := l) (by omega) hft
  refine (append_calls h2 h1.size a m c l hm hr hl (by unfold maxLen; omega) hsh (by omega) (by omega) (by omega)).mono ?_
  rintro e w1 ⟨lv1, tl1, rfl, S1, st1, X1⟩
  rw [e1]
  exact ⟨rfl, ⟨lv1, tl1, _, _, Sd.frame h1 h2 st1, S1, e2, ⟨by omega, by omega, by omega, by rw [List.length_append]; simp; omega⟩, by omega, fun k hk hk2 => (X1 k hk).elim (fun hx => hap k hx hk2) (fun hx => by have := hA k hk2; omega)⟩, st1.more (fun k hk => hap k hk)⟩
theorem Sd2.check {A : Nat → Prop} {W w : World} {N n p bb q : Nat} {whole : Bool} {snap : List Int} {lst : List (List Int)} (h : Sd2 A W N n p bb q whole snap lst w) (hA : ∀ k, A k → k < w.heap.size) (hN : N ≤ 1000) (hn : 80 ≤ n) (hn2 : n ≤ 5000) (a : Option Addr) (m c : Nat) (l : List Int) (hm : l.length = m) (hr : RdA w (fun k => ¬ A k) a (bv l)) (hl : Byt l) (h6 : l.length ≤ 524288) (hfit : l.length + 1024 ≤ 16 * n) :
    Calls Try.prog 13 #[.pointer (some ⟨q, 0, none⟩), .slice a m c] w fun e w' => e = .returned (.int .i64 0) ∧ Sd2 A W (N + 1) n p bb q true l [] w' ∧ Stp (fun k => ¬ A k) w w' := by
  obtain ⟨lv, tl, d, s, h1, h2, h3, h4, h5, hap⟩ := h
  have hhf := halfP_le h2.da.wf
  have hh2 : 2 * halfP d + 3 ≥ n := by unfold halfP; omega
  obtain ⟨e1, e2, e3, e4, e5, e6, e7, e8⟩ := h3.check (p := l) (by omega) h2.l32 (by omega) (by omega) (by omega)
  refine (check_calls h2 h1.size a m c l hm (hr.step (Fr.refl [] w) (by simp) (fun k hk => .inl (hap k hk))) hl (by unfold maxLen; omega)).mono ?_
  rintro e w1 ⟨lv1, tl1, rfl, S1, st1, X1⟩
  rw [e1]
  exact ⟨rfl, ⟨lv1, tl1, _, _, Sd.frame h1 h2 st1, S1, e2, ⟨by omega, by omega, by rw [e7]; simp, by simp⟩, by omega, fun k hk hk2 => (X1 k hk).elim (fun hx => hap k hx hk2) (fun hx => by have := hA k hk2; omega)⟩, st1.more (fun k hk => hap k hk)⟩
/-- What is written lies in A. -/
theorem Sd2.step {A : Nat → Prop} {S : List Nat} {W w w' : World} {N n p bb q : Nat} {whole : Bool} {snap : List Int} {lst : List (List Int)} (h : Sd2 A W N n p bb q whole snap lst w) (f : Fr S w w') (hS : ∀ k ∈ S, A k) (hW : ∀ k ∈ S, W.heap.size ≤ k) : Sd2 A W N n p bb q whole snap lst w' := by
  obtain ⟨lv, tl, d, s, h1, h2, h3, h4, h5, hap⟩ := h
  have hx : ∀ k, stoX p bb q lv tl k → k ∉ S := fun k hk hm => hap k hk (hS k hm)
  refine ⟨lv, tl, d, s, h1.trans f (fun k hk hlt => by have := hW k hk; omega), ⟨h2.da.fr f (hx p (.inr (.inl (by simp)))) (hx bb (.inr (.inl (by simp)))) (fun k hk => hx k (.inr (.inl (by simp [hk])))), h2.yd, h2.hq.fr f (hx q (.inl rfl)), h2.ht.fr f (fun k hk => hx k (.inr (.inr hk))), h2.yt, h2.bq, h2.g32, h2.l32⟩, h3, h4, h5, hap⟩
end Go.Fur
