/- The document's task as bytes: contract. -/
import Derived.Test.YtmdfipahbhbgjaaRefW
namespace Go.Fur
open Go Go.RowKit Go.Proofs
set_option linter.unusedVariables false
set_option linter.unusedSimpArgs false
theorem Rd.apart {w : World} {X : Nat → Prop} {a : Option Addr} {cs : List Value} (h : Rd w a cs) (hX : ∀ b o, a = some ⟨b, o, none⟩ → b < w.heap.size → ¬ X b) : RdA w X a cs := fun hn => by
  obtain ⟨b, o, ha, hlt⟩ := h.lt hn
  obtain ⟨b', o', ha', hr⟩ := h hn
  have hbb : b' = b := by rw [ha] at ha'; injection ha' with h; injection h with h1; exact h1.symm
  subst hbb
  exact ⟨b', o', ha', hX _ _ ha' hlt, hlt, hr⟩
theorem Blk.rdA {w : World} {g : Nat} {t : TypeId} {cs : List Value} (h : Blk w g t cs) {X : Nat → Prop} (hX : ¬ X g) : RdA w X (some ⟨g, 0, none⟩) cs :=
  Rd.apart (by have := h.rd0 cs.length; rwa [List.take_length] at this) (fun b o hb _ => by
    injection hb with hb
    injection hb with hb
    subst hb
    exact hX)
/-- A new row, grown from nothing. -/
theorem Grow.nil {base : Nat} {w wr : World} (f : Fr [] w wr) : Grow base (.slice none 0 0) w (.slice none 0 0) [] wr := ⟨Own.nil _ _ _ _, f, fun k hk => by simp at hk⟩
theorem Grow.put {base : Nat} {v : Value} {w : World} {v' v2 : Value} {bs cs : List Int} {wr w2 : World} (h : Grow base v w v' bs wr) (o : Own w2 base 5 1 v2 cs.length (bv cs)) (f : Fr (ob v') wr w2) (k : ∀ k ∈ ob v2, k ∈ ob v' ∨ wr.heap.size ≤ k) : Grow base v w v2 cs w2 := by
  refine ⟨o, h.2.1.trans f (fun x hx hlt => ?_), fun x hx => ?_⟩
  · rcases h.2.2 x hx with h1 | h1
    · exact h1
    · omega
  · rcases k x hx with k | k
    · exact h.2.2 x k
    · have := h.2.1.size
      exact .inr (by omega)
theorem Grow.ne {base : Nat} {v : Value} {w : World} {v' : Value} {bs : List Int} {wr : World} (h : Grow base v w v' bs wr) {g : Nat} {t : TypeId} {cs : List Value} (hb : Blk wr g t cs) (ht : (5 : TypeId) ≠ t) : g ∉ ob v' := fun hm => Blk.ne_own hb h.1 ht (mem_ob.1 hm)
theorem Grow.new {base : Nat} {v : Value} {w : World} {v' : Value} {bs : List Int} {wr : World} (h : Grow base v w v' bs wr) {g : Nat} (hg : wr.heap.size ≤ g) : g ∉ ob v' := fun hm => by have := (h.1.lt hm).2; omega
theorem Grow.end {base b0 : Nat} {w : World} {v : Value} {bs : List Int} {wr : World} (h : Grow b0 (.slice none 0 0) w v bs wr) (hb : base ≤ b0) : ByE base bs w (.returned v) wr := ⟨v, rfl, h.1.base hb, h.2.1⟩
set_option maxRecDepth 100000 in
set_option maxHeartbeats 1000000 in
theorem taskR_calls {w : World} {base : Nat} (hbase : base ≤ w.heap.size) (t : Tas) (a : Option Addr) (c : Nat) (hr : Rd w a (iv t.tickets)) (hok : t.ok) (hlen : t.tickets.length ≤ 1048576) :
    Calls Try.prog 41 #[.agg (t.cells a c).toArray] w (ByE base t.enc w) := by
  have HR := Lib.hid hr
  have HQ := Lib.hid hok
  have hL := Tas.enc_length t
  have hq : ∀ x ∈ [t.id, t.queue, t.cpu, t.mem, t.work], I64 x := fun x hx => hok.1 x (by simp at hx ⊢; rcases hx with h | h | h | h | h <;> simp [h])
  have hq2 : ∀ x ∈ [t.state], I64 x := fun x hx => hok.1 x (by simp at hx ⊢; simp [hx])
  have HI := Lib.hid (And.intro hq hq2)
  clear hr hok hq hq2
  go_enter Try.func41, Try.ntmps41
  go_wp2_with (first
    | (refine wpList_boxB rfl 30 _ rfl (t.cells a c) (by rfl) ?_; intro w1 B1 F1 S1; have c0 : w1.cell? ⟨w.heap.size, 0, none⟩ = some (.int .i64 t.id) := B1.cellAt rfl; have c1 : w1.cell? ⟨w.heap.size, 1, none⟩ = some (.int .i64 t.queue) := B1.cellAt rfl; have c2 : w1.cell? ⟨w.heap.size, 2, none⟩ = some (.int .i64 t.cpu) := B1.cellAt rfl; have c3 : w1.cell? ⟨w.heap.size, 3, none⟩ = some (.int .i64 t.mem) := B1.cellAt rfl; have c4 : w1.cell? ⟨w.heap.size, 4, none⟩ = some (.int .i64 t.work) := B1.cellAt rfl; have HB1 := Lib.hid B1; have HF1 := Lib.hid F1; have HS1 := Lib.hid S1; clear B1 F1 S1)
    | (refine wpList_buildN rfl 81 2 5 [(0, .tmp 5), (1, .tmp 7), (2, .tmp 10), (3, .tmp 13), (4, .tmp 15)] rfl [(0, .int .i64 t.id), (1, .int .i64 t.queue), (2, .int .i64 t.cpu), (3, .int .i64 t.mem), (4, .int .i64 t.work)] (by rfl) _ (buildI_5 t.id t.queue t.cpu t.mem t.work) ?_; intro w2 B2 F2 S2; have HB2 := Lib.hid B2; have HF2 := Lib.hid F2; clear B2 F2 S2))
  have G2 := Grow.nil (base := w.heap.size) (HF1.out.trans0 HF2.out)
  refine (put_calls (w := w2) (base := w.heap.size) G2.2.1.size (.slice none 0 0) [] G2.1 _ 5 5 [t.id, t.queue, t.cpu, t.mem, t.work] rfl (HB2.out.rdA (by simp)) HI.out.1 (by simp)).mono ?_
  rintro e w3 ⟨v3, rfl, O3, F3, K3⟩
  have HG3 := Lib.hid (G2.put O3 F3 K3)
  have HB3 := Lib.hid ((HB1.out.fr HF2.out (by simp)).fr F3 (by simp))
  have e5 : w3.cell? ⟨w.heap.size, 5, none⟩ = some (.slice a t.tickets.length c) := HB3.out.cellAt rfl
  clear G2 O3 F3 K3 c0 c1 c2 c3 c4
  rw [List.nil_append] at HG3
  go_wp2_with fail
  refine (numbers_calls (w := w3) (base := w.heap.size) HG3.out.2.1.size a _ c t.tickets rfl (HR.out.fr0 HG3.out.2.1) HQ.out.2 (by omega)).mono ?_
  rintro e w4 ⟨v4, rfl, O4, F4⟩
  obtain ⟨a4, k4, rfl, _, _, R4⟩ := O4.form
  have HG4 := Lib.hid (HG3.out.fr0 F4)
  have HB4 := Lib.hid (HB3.out.fr F4 (by simp))
  have HR4 := Lib.hid R4
  have hl5 := intsE_length [t.id, t.queue, t.cpu, t.mem, t.work]
  have hlt := listE_length t.tickets
  simp only [List.length_cons, List.length_nil] at hl5
  clear O4 F4 R4 e5 HG3 HB3
  have HE := Lib.hid (show intsE [t.id, t.queue, t.cpu, t.mem, t.work] ++ listE t.tickets ++ intsE [t.state] = t.enc from rfl)
  generalize intsE [t.id, t.queue, t.cpu, t.mem, t.work] = b1 at *
  generalize listE t.tickets = b2 at *
  have hz4 := HG4.out.2.1.size
  go_wp2_with (first
    | (refine wpList_appB rfl _ _ 37 37 rfl w.heap.size 5 5 .u8 1 Try.underlying37 Try.underlying37 info_byte _ b1.length (bv b1) (by rfl) HG4.out.1 a4 b2.length k4 (bv b2) (by rfl) HR4.out (by simp) (bv_one _) (by simp only [maxLen]; omega) (by omega) (by omega) ?_; intro v5 w5 O5 F5 K5 _; have HG5 := Lib.hid (HG4.out.app O5 F5 K5); have HB5 := Lib.hid (HB4.out.fr F5 (HG4.out.ne HB4.out (by decide))); have e6 : w5.cell? ⟨w.heap.size, 6, none⟩ = some (.int .i64 t.state) := HB5.out.cellAt rfl; clear O5 F5 K5)
    | (refine wpList_buildN rfl 81 2 1 [(0, .tmp 25)] rfl [(0, .int .i64 t.state)] (by rfl) _ (buildI_1 t.state) ?_; intro w6 B6 F6 S6; have HG6 := Lib.hid (HG5.out.fr0 F6); have HB6 := Lib.hid B6; clear B6 F6 S6))
  refine (put_calls (w := w6) (base := w.heap.size) HG6.out.2.1.size v5 (b1 ++ b2) HG6.out.1 _ 1 1 [t.state] rfl (HB6.out.rdA (HG5.out.new (Nat.le_refl _))) HI.out.2 (by rw [List.length_append]; omega)).mono ?_
  rintro e w7 ⟨v7, rfl, O7, F7, K7⟩
  have HG7 := Lib.hid (HG6.out.put O7 F7 K7)
  rw [HE.out] at HG7
  clear O7 F7 K7
  go_wp2_with fail
  go_ret
  exact HG7.out.end hbase
end Go.Fur
