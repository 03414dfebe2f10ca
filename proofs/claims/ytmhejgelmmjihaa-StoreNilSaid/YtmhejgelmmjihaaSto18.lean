/- A store and what it holds, by name: its calls. -/
import Derived.Test.YtmhejgelmmjihaaSto17
namespace Go.Fur
open Go Go.RowKit Go.Proofs
set_option linter.unusedVariables false
set_option linter.unusedSimpArgs false
/-- A store q on the disk p, behind N calls; all new since W. -/
def Sd (W : World) (N n p bb q : Nat) (whole : Bool) (snap : List Int) (lst : List (List Int)) (w : World) : Prop :=
  ∃ lv tl d s, Fr [] W w ∧ StoAt w W.heap.size p bb q lv tl d s ∧ Desk d s whole snap lst ∧ (s.gen ≤ N + 1 ∧ s.life ≤ N + 1 ∧ d.loose.length ≤ N * 3000 ∧ lst.length ≤ N) ∧ d.now.length = n
theorem Sd.fr0 {W w w' : World} {N n p bb q : Nat} {whole : Bool} {snap : List Int} {lst : List (List Int)} (h : Sd W N n p bb q whole snap lst w) (f : Fr [] w w') : Sd W N n p bb q whole snap lst w' := by
  obtain ⟨lv, tl, d, s, h1, h2, h3, h4, h5⟩ := h
  exact ⟨lv, tl, d, s, h1.trans0 f, h2.fr0 f, h3, h4, h5⟩
theorem Sd.fr {W w : World} {N n p bb q : Nat} {whole : Bool} {snap : List Int} {lst : List (List Int)} (h : Sd W N n p bb q whole snap lst w) : Fr [] W w := by
  obtain ⟨lv, tl, d, s, h1, h2, h3, h4, h5⟩ := h
  exact h1
theorem Sd.frame {W w w' : World} {p bb q : Nat} {lv tl : Value} {d : D} {s : St} (h1 : Fr [] W w) (h2 : StoAt w W.heap.size p bb q lv tl d s) (st : Stp (stoX p bb q lv tl) w w') : Fr [] W w' := by
  obtain ⟨S, f, hS⟩ := st
  have := h1.size
  exact h1.trans f (fun k hk hlt => by
    rcases hS k hk with h | h
    · have := (stoX_ge h2 h).1
      omega
    · omega)
theorem Sd.append {W w : World} {N n p bb q : Nat} {whole : Bool} {snap : List Int} {lst : List (List Int)} (h : Sd W N n p bb q whole snap lst w) (hN : N ≤ 1000) (hn : 80 ≤ n) (hn2 : n ≤ 5000) (a : Option Addr) (m c : Nat) (l : List Int) (hm : l.length = m) (hr : Rd w a (bv l)) (hl : Byt l) (h6 : l.length ≤ 65536) (hfit : (snap ++ encs lst).length + l.length + 1028 ≤ 16 * n) :
    Calls Try.prog 12 #[.pointer (some ⟨q, 0, none⟩), .slice a m c] w fun e w' => e = .returned (.int .i64 0) ∧ Sd W (N + 1) n p bb q whole snap (lst ++ [l]) w' := by
  obtain ⟨lv, tl, d, s, h1, h2, h3, h4, h5⟩ := h
  have hlen := h3.pos.len
  have hsh := h3.short
  have hle := h3.pos.le
  have hcnt := h3.cnt
  have hhf := halfP_le h2.da.wf
  have hh2 : 2 * halfP d + 3 ≥ n := by unfold halfP; omega
  have hh3 : 2 * halfP d ≤ n := by unfold halfP; omega
  have hft : fitsB d s (l.length + 4) = true := by
    unfold fitsB
    rw [decide_eq_true_iff]
    omega
  obtain ⟨e1, e2, e3, e4, e5, e6, e7, e8⟩ := h3.append h2.g32 h2.l32 (p := l) (by omega) hft
  refine (append_calls h2 h1.size a m c l hm hr hl (by unfold maxLen; omega) hsh (by omega) (by omega) (by omega)).mono ?_
  rintro e w1 ⟨lv1, tl1, rfl, S1, st1, X1⟩
  rw [e1]
  exact ⟨rfl, lv1, tl1, _, _, Sd.frame h1 h2 st1, S1, e2, ⟨by omega, by omega, by omega, by rw [List.length_append]; simp; omega⟩, by omega⟩
theorem Sd.sync {W w : World} {N n p bb q : Nat} {whole : Bool} {snap : List Int} {lst : List (List Int)} (h : Sd W N n p bb q whole snap lst w) :
    Calls Try.prog 14 #[.pointer (some ⟨q, 0, none⟩)] w fun e w' => e = .returned (.int .i64 0) ∧ Sd W N n p bb q whole snap lst w' := by
  obtain ⟨lv, tl, d, s, h1, h2, h3, h4, h5⟩ := h
  refine (ssync_calls h2).mono ?_
  rintro e w1 ⟨rfl, S1, F1⟩
  refine ⟨rfl, _, tl, d.calm, _, h1.trans F1 (fun k hk hlt => ?_), S1, h3.calm, ⟨h4.1, h4.2.1, by simp [D.calm], h4.2.2.2⟩, h5⟩
  simp only [List.mem_cons, List.not_mem_nil, or_false] at hk
  have := h2.da.bp
  have := h2.bq
  omega
theorem Sd.check {W w0 w : World} {N n p bb q : Nat} {whole : Bool} {snap : List Int} {lst : List (List Int)} (h0 : Sd W N n p bb q whole snap lst w0) (f0 : Fr [] w0 w) (hN : N ≤ 1000) (hn : 80 ≤ n) (hn2 : n ≤ 5000) (a : Option Addr) (m c : Nat) (l : List Int) (hm : l.length = m) (hr : RdA w (fun k => W.heap.size ≤ k ∧ k < w0.heap.size) a (bv l)) (hl : Byt l) (h6 : l.length ≤ 524288) (hfit : l.length + 1024 ≤ 16 * n) :
    Calls Try.prog 13 #[.pointer (some ⟨q, 0, none⟩), .slice a m c] w fun e w' => e = .returned (.int .i64 0) ∧ Sd W (N + 1) n p bb q true l [] w' := by
  obtain ⟨lv, tl, d, s, h1, h2, h3, h4, h5⟩ := h0
  have hhf := halfP_le h2.da.wf
  have hh2 : 2 * halfP d + 3 ≥ n := by unfold halfP; omega
  have h2' := h2.fr0 f0
  obtain ⟨e1, e2, e3, e4, e5, e6, e7, e8⟩ := h3.check (p := l) (by omega) h2.l32 (by omega) (by omega) (by omega)
  refine (check_calls h2' (h1.trans0 f0).size a m c l hm (hr.step (Fr.refl [] w) (by simp) (fun k hk => .inl (stoX_ge h2 hk))) hl (by unfold maxLen; omega)).mono ?_
  rintro e w1 ⟨lv1, tl1, rfl, S1, st1, X1⟩
  rw [e1]
  exact ⟨rfl, lv1, tl1, _, _, Sd.frame (h1.trans0 f0) h2' st1, S1, e2, ⟨by omega, by omega, by rw [e7]; simp, by simp⟩, by omega⟩
theorem Sd.len {W w : World} {N n p bb q : Nat} {whole : Bool} {snap : List Int} {lst : List (List Int)} (h : Sd W N n p bb q whole snap lst w) :
    Calls Try.prog 15 #[.pointer (some ⟨q, 0, none⟩)] w fun e w' => e = .returned (.int .i64 lst.length) ∧ w = w' := by
  obtain ⟨lv, tl, d, s, h1, h2, h3, h4, h5⟩ := h
  exact (slen_calls h2).mono fun e w' hw => ⟨by rw [hw.1, h3.cnt], hw.2⟩
/-- Opened anew. -/
theorem Sd.again {W w : World} {N n p bb q : Nat} {whole : Bool} {snap : List Int} {lst : List (List Int)} (h : Sd W N n p bb q whole snap lst w) (hN : N ≤ 1000000) (hys : Byt snap) (hyl : ∀ x ∈ lst, Byt x) :
    Calls Try.prog 11 #[.pointer (some ⟨p, 0, none⟩)] w fun e w' => ∃ q' vs vr tl m1 m2 d' o, e = .returned (.tuple #[.pointer (some ⟨q', 0, none⟩), .agg #[.bool whole, vs, vr], .int .i64 0]) ∧
      OpenAt w' W.heap.size p bb q' vs vr tl d' o w.heap.size m1 m2 ∧ o.snap = snap ∧ o.recs = lst ∧ Sd W (N + 1) n p bb q' whole snap lst w' ∧ Fr [p] w w' ∧ W.heap.size ≤ p ∧ p < w.heap.size := by
  obtain ⟨lv, tl, d, s, h1, h2, h3, h4, h5⟩ := h
  obtain ⟨L', i, tail, g1, g2, g3⟩ := h3.again h2.da.wf (by omega)
  refine (open_calls h2.da h2.yd).mono ?_
  rintro e w1 ⟨q', vs, vr, tl1, m1, m2, rfl, O1, F1⟩
  have hbs := h1.size
  have hyt : Byt tail := by
    have htl := g3.pos.tl
    dsimp only at htl
    rw [htl]
    exact (hys.append (encs_byt hyl (fun x hx => h3.now.few x hx))).drop _
  have hbp := h2.da.bp
  have hpw := h2.da.hp.lt
  rw [g2] at O1
  have S1 := O1.sto hbs h2.yd hyt (by have := h2.g32; dsimp only; omega) (by dsimp only; omega)
  rw [g2]
  exact ⟨q', vs, vr, tl1, m1, m2, d, _, rfl, O1, rfl, rfl, ⟨_, _, _, _, h1.trans F1 (fun k hk hlt => by rw [List.mem_singleton.1 hk] at hlt; omega), S1, g3, ⟨by dsimp only; omega, by dsimp only; omega, by simp [D.calm], by omega⟩, h5⟩, F1, hbp, hpw⟩
/-- A new disk, opened. -/
theorem Sd.new {W w : World} {n p bb : Nat} (hW : Fr [] W w) (hD : DiskAt w W.heap.size p bb (.slice none 0 0) (D.new n)) (hn : 80 ≤ n) (hn2 : n ≤ 5000) :
    Calls Try.prog 11 #[.pointer (some ⟨p, 0, none⟩)] w fun e w' => ∃ q av cs ar cr, e = .returned (.tuple #[.pointer (some ⟨q, 0, none⟩), .agg #[.bool false, .slice av 0 cs, .slice ar 0 cr], .int .i64 0]) ∧
      Sd W 0 n p bb q false [] [] w' ∧ Fr [p] w w' := by
  obtain ⟨L', i, tail, g1, g2, g3⟩ := desk_open (good_new n) (fun b hb => by rw [List.eq_of_mem_replicate hb]; simp) (by omega) (by simp [encs])
  have hp1 := g3.pos.len
  dsimp only at hp1
  have htl : tail = [] := List.eq_nil_of_length_eq_zero (by simp [encs] at hp1; omega)
  refine (open_calls hD (D.new_byt n)).mono ?_
  rintro e w1 ⟨q, vs, vr, tl1, m1, m2, rfl, O1, F1⟩
  have hbp := hD.bp
  rw [g2] at O1
  obtain ⟨as1, cs1, rfl, _, _, _⟩ := O1.sn.form
  obtain ⟨us, hus, _, _⟩ := O1.rs
  obtain ⟨ar1, cr1, rfl, _, _, _⟩ := hus.form
  have S1 := O1.sto hW.size (D.new_byt n) (by dsimp only; rw [htl]; exact Byt.nil) (by dsimp only; omega) (by dsimp only; omega)
  rw [g2]
  exact ⟨q, as1, cs1, ar1, cr1, rfl, ⟨_, _, _, _, hW.trans F1 (fun k hk hlt => by rw [List.mem_singleton.1 hk] at hlt; omega), S1, g3, ⟨by dsimp only; omega, by dsimp only; omega, by simp [D.calm], by simp⟩, by simp [D.calm, D.new]⟩, F1⟩
end Go.Fur
