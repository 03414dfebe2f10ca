/- whole[Entry], DecodeEntry: contracts. -/
import Derived.Test.YtmdfipahbhbgjaaCmdR3
namespace Go.Fur
open Go Go.RowKit Go.Proofs
set_option linter.unusedVariables false
set_option linter.unusedSimpArgs false
section
variable {P : Program}
theorem run_loadB {o : Oper} {a : Act} {w : World} (ty : TypeId) (x : Operand) (ho : o.op = .load ty x)
    (g : Nat) (hx : a.eval x = .pointer (some ⟨g, 0, none⟩)) (t : TypeId) (cs : List Value) (d : TypeDesc) (hg : Blk w g t cs)
    (hu : P.underlying ty = some d) (hd : (match d with | .struct _ | .array _ _ => true | _ => false) = true) (hi : (P.info? ty).map (·.size) = some cs.length) :
    (execOp a.eval o).run P w = .ok (.value (.agg cs.toArray)) w := by
  unfold execOp
  simp only [ho, hx, Instr.loadAt, Instr.sureAddr, Sem.run_bind, Sem.run_pure, Result.andThen_ok, run_loadVar_row w g t ty cs.toArray (0, 0) d hg hu hd (by simpa using hi)]
theorem results_cellB_tmp2 {fn : Func} {p u v : Tmp} {ty : TypeId} (h : fn.results = #[.cell p ty, .tmp u, .tmp v]) (tmps : Array Value) (w : World) (g : Nat) (t : TypeId) (cs : List Value) (d : TypeDesc)
    (hp : tmps.getD p undef = .pointer (some ⟨g, 0, none⟩)) (hg : Blk w g t cs)
    (hu : P.underlying ty = some d) (hd : (match d with | .struct _ | .array _ _ => true | _ => false) = true) (hi : (P.info? ty).map (·.size) = some cs.length) :
    (results fn tmps).run P w = .ok (.tuple #[.agg cs.toArray, tmps.getD u undef, tmps.getD v undef]) w := by
  have hp' : tmps[p]?.getD undef = .pointer (some ⟨g, 0, none⟩) := by simpa using hp
  simp [results, h, hp', asAddr, run_loadVar_row w g t ty cs.toArray (0, 0) d hg hu hd (by simpa using hi)]
end
/-- What was read, to its end: the place of the fault, and the error. -/
def endR (l : List Int) (s : Int × Int) : Int × Int := if s.2 = 0 then (if s.1 < (l.length : Int) then (s.1, 7) else (0, 0)) else s
def decR {β : Type} (l : List Int) (zero : β) (r : β × Int × Int) : β × Int × Int := if (endR l r.2).2 = 0 then (r.1, endR l r.2) else (zero, endR l r.2)
def que0 : Que := ⟨0, 0, 0, 0, 0, 0, 0⟩
def nod0 : Nod := ⟨0, 0, 0, 0, 0⟩
def tas0 : Tas := ⟨0, 0, 0, 0, 0, [], 0⟩
def ent0 : Ent := ⟨0, 0, 0, ⟨0, 0, 0, 0, 0, que0, nod0, tas0⟩⟩
theorem reader_build (a : Option Addr) (n c : Nat) (w : World) : (Instr.build 140 [(0, .slice a n c)].toArray).run Try.prog w = .ok (.agg [.slice a n c, .int .i64 0, .int .i64 0].toArray) w := by kernel_rfl
theorem entry_zero2 : ∀ w, (zeroValue 34).run Try.prog w = .ok (.agg (ent0.cells none 0).toArray) w := fun w => by kernel_rfl
theorem entry_size2 (x : Ent) (a : Option Addr) (c : Nat) : (Try.prog.info? 34).map (·.size) = some (x.cells a c).length := by
  simpa [Ent.cells, Que.cells, Nod.cells, Tas.cells, Cmd.cells] using rentry_size
theorem Ent.one (x : Ent) (a : Option Addr) (c : Nat) : ∀ v ∈ x.cells a c, v.oneCell' = true := by
  simp [Value.oneCell', Ent.cells, Que.cells, Nod.cells, Tas.cells, Cmd.cells]
theorem Ent.len (x : Ent) (a : Option Addr) (c : Nat) : (x.cells a c).length = 27 := rfl
/-- What a decoder answers. -/
def DecE {β : Type} (base : Nat) (El : Nat → β → Value → World → Prop) (r : β × Int × Int) (w : World) (e : Ending) (w' : World) : Prop := ∃ v, e = .returned (.tuple #[v, .int .i64 r.2.1, .int .i64 r.2.2]) ∧ El base r.1 v w' ∧ Fr [] w w'
set_option maxRecDepth 100000 in
set_option maxHeartbeats 1000000 in
theorem wholeE_calls {w : World} {base : Nat} {a : Option Addr} {n c : Nat} {l : List Int} (hbase : base ≤ w.heap.size) (hs : Src l a n c) (hr : Rd w a (bv l)) :
    Calls Try.prog 43 #[.slice a n c, .func (.func 44) #[] #[]] w (DecE base EntO (decR l ent0 (rE l (0, 0))) w) := by
  have hC : ∀ W p, base ≤ W.heap.size → Rr W p a n c l (0, 0) → Calls Try.prog 44 #[.pointer (some ⟨p, 0, none⟩)] W (RoE base p a n c l EntO (rE l (0, 0)).1 (rE l (0, 0)).2 W) := fun W p hb h => rentry_calls hb h
  generalize rE l (0, 0) = r at *
  obtain ⟨x, at1, er1⟩ := r
  have HC := Lib.hid hC
  have HR := Lib.hid hr
  have HS := Lib.hid hs
  have hln := hs.len
  clear hC hr hs
  by_cases he : er1 = 0
  · subst he
    by_cases hlt : at1 < (n : Int)
    · have e1 : decR l ent0 (x, at1, 0) = (ent0, at1, 7) := by unfold decR endR; dsimp only; rw [if_pos rfl, hln, if_pos hlt, if_neg (fun h => by cases h)]
      rw [e1]
      clear e1
      go_enter Try.func43, Try.ntmps43
      go_wp2_with (first
        | (refine wpList_allocZ rfl 34 rfl _ entry_zero2 ?_; intro w1 B1 F1 S1; have HB1 := Lib.hid B1; have HF1 := Lib.hid F1; have HS1 := Lib.hid S1; clear B1 F1 S1)
        | (refine wpList_buildV rfl 140 [(0, .tmp 9)] rfl [(0, .slice a n c)] (by rfl) _ (reader_build a n c _) ?_)
        | (refine wpList_boxB rfl 140 _ rfl [.slice a n c, .int .i64 0, .int .i64 0] (by rfl) ?_; intro w2 B2 F2 S2; have HB2 := Lib.hid B2; have HF2 := Lib.hid F2; have HS2 := Lib.hid S2; clear B2 F2 S2))
      have R2 : Rr w2 w1.heap.size a n c l (0, 0) := ⟨HB2.out, fun hne => by
        obtain ⟨b, o, ha, hlt⟩ := HR.out.lt hne
        have := HS1.out
        have := HS2.out
        obtain ⟨b', o', ha', hr'⟩ := (HR.out.fr0 (HF1.out.trans0 HF2.out)) hne
        have hbb : b' = b := by rw [ha] at ha'; injection ha' with h; injection h with h1; exact h1.symm
        subst hbb
        exact ⟨b', o', ha', by dsimp only; omega, by omega, hr'⟩, HS.out⟩
      refine (HC.out w2 w1.heap.size (by have := HS1.out; have := HS2.out; omega) R2).mono ?_
      rintro e w3 ⟨v, rfl, ⟨a3, k3, rfl, ho3⟩, hr3, hf3⟩
      have hne : w.heap.size ≠ w1.heap.size := by have := HS1.out; omega
      have HB3 := Lib.hid ((HB1.out.fr HF2.out (by simp)).fr hf3 (by simpa using hne))
      have HR3 := Lib.hid hr3
      have HO3 := Lib.hid ho3
      have HF3 := Lib.hid ((HF1.out.trans0 HF2.out).trans hf3 (fun k hk hlt => by have := HS1.out; rw [List.mem_singleton.1 hk] at hlt; omega))
      have HG3 := Lib.hid hf3
      clear hr3 ho3 hf3 R2
      go_wp2_with (first
        | (have z := HP5.out; clear z; refine wpList_allocZ rfl 34 rfl _ entry_zero2 ?_; intro w6 B6 F6 S6; have HB6 := Lib.hid B6; have HF6 := Lib.hid F6; have HS6 := Lib.hid S6; have HP6 := Lib.hid (HP5.out.fr F6 (by simp)); clear B6 F6 S6)
        | (refine wpList_store1 rfl 38 _ _ rfl w1.heap.size 2 (.int .i64 7) (by rfl) (by rfl) rfl 140 _ HP4.out (by simp) (by kernel_rfl) rfl ?_; intro w5 B5 F5 S5; have HP5 := Lib.hid B5; have HF5 := Lib.hid F5; have HS5 := Lib.hid S5; have HB5 := Lib.hid (HB4.out.fr F5 (by simpa using hne)); have c2 : w5.cell? ⟨w1.heap.size, 2, none⟩ = some (.int .i64 7) := B5.cellAt rfl; clear B5 F5 S5)
        | (refine wpList_storeB rfl 34 _ _ rfl w.heap.size 0 (x.cells a3 k3) (by rfl) (by rfl) 34 _ HB3.out (by rw [Ent.len, Ent.len]; omega) (entry_size2 x a3 k3) (x.one a3 k3) ?_; intro w4 B4 F4 S4; rw [splice_all _ _ (by rfl)] at B4; have hp4 := HR3.out.hp.fr F4 (by simpa using hne.symm); have c1 : w4.cell? ⟨w1.heap.size, 1, none⟩ = some (.int .i64 at1) := hp4.cellAt rfl; have c2 : w4.cell? ⟨w1.heap.size, 2, none⟩ = some (.int .i64 0) := hp4.cellAt rfl; have hpl := hp4.lt; have HP4 := Lib.hid hp4; clear hp4; have HB4 := Lib.hid B4; have HF4 := Lib.hid F4; have HS4 := Lib.hid S4; clear B4 F4 S4))
      refine wp_region_ord (Fr [w.heap.size] w6) [0, 1, 2, 3, 4, 5, 6, 7, 8, 9, 10, 11] [] [9] [0, 4, 8] mixed (by kernel_rfl) ?_
      have hS : Fr [w.heap.size] w6 w6.drew := (Fr.refl _ _).drew
      have d1 : ∀ W, Fr [w.heap.size] w6 W → W.cell? ⟨w1.heap.size, 1, none⟩ = some (.int .i64 at1) := fun W f => (HP6.out.fr f (by simpa using hne.symm)).cellAt rfl
      have d2 : ∀ W, Fr [w.heap.size] w6 W → W.cell? ⟨w1.heap.size, 2, none⟩ = some (.int .i64 7) := fun W f => (HP6.out.fr f (by simpa using hne.symm)).cellAt rfl
      simp only [pairs, pickN]
      refine wpO_take (.agg (ent0.cells none 0).toArray) hS (by rfl) (by rfl) (fun w' hw' => run_loadB 34 _ rfl w5.heap.size (by rfl) 34 _ _ (HB6.out.fr hw' (by have := HB5.out.lt; simp; omega)) Try.underlying34 rfl (entry_size2 ent0 none 0)) ?_
      simp only [Act.put, List.setIfInBounds_toArray, List.set_cons_zero, List.set_cons_succ]
      repeat (first | (refine wpO_free ?_ (by rfl) (by rfl) (fun w' => ?_) ?_; rotate_left; (go_simp; rfl); simp only [Act.put, List.setIfInBounds_toArray, List.set_cons_zero, List.set_cons_succ]) | (refine wpO_take ?_ hS (by rfl) (by rfl) (fun w' hw' => ?_) ?_; rotate_left; (go_simp; rfl); simp only [Act.put, List.setIfInBounds_toArray, List.set_cons_zero, List.set_cons_succ]) | (refine wpO_pass (by rfl) ?_; simp only [Act.put, List.setIfInBounds_toArray, List.set_cons_zero, List.set_cons_succ]))
      refine wpO_eff (by rfl) ?_
      refine wpList_storeB rfl 34 _ _ rfl w.heap.size 0 (ent0.cells none 0) (by rfl) (by rfl) 34 _ (Blk.drew (HB5.out.fr HF6.out (by simp))) (by rw [Ent.len, Ent.len]; omega) (entry_size2 ent0 none 0) (ent0.one none 0) ?_
      intro w7 B7 F7 S7
      rw [splice_all _ _ (by rfl)] at B7
      refine effQ_keep (hS.trans1 F7) ?_
      simp only [Act.put, List.setIfInBounds_toArray, List.set_cons_zero, List.set_cons_succ]
      repeat (first | (refine wpO_free ?_ (by rfl) (by rfl) (fun w' => ?_) ?_; rotate_left; (go_simp; rfl); simp only [Act.put, List.setIfInBounds_toArray, List.set_cons_zero, List.set_cons_succ]) | (refine wpO_pass (by rfl) ?_; simp only [Act.put, List.setIfInBounds_toArray, List.set_cons_zero, List.set_cons_succ]))
      refine wpO_nil ?_
      have HB7 := Lib.hid B7
      have HF7 := Lib.hid (hS.trans1 F7)
      clear d1 d2 hS B7 F7 S7
      go_wp2_with fail
      refine bodyPost_ret (results_cellB_tmp2 rfl _ _ w.heap.size 34 _ _ (by rfl) HB7.out Try.underlying34 rfl (entry_size2 ent0 none 0)) rfl ⟨_, by rfl, ⟨none, 0, rfl, Own.nil _ _ _ _⟩, ?_⟩
      exact (((HF3.out.trans HF4.out (fun k hk hlt => by rw [List.mem_singleton.1 hk] at hlt; omega)).trans HF5.out (fun k hk hlt => by have := HS1.out; rw [List.mem_singleton.1 hk] at hlt; omega)).trans0 HF6.out).trans HF7.out (fun k hk hlt => by rw [List.mem_singleton.1 hk] at hlt; omega)
    · have e1 : decR l ent0 (x, at1, 0) = (x, 0, 0) := by unfold decR endR; dsimp only; rw [if_pos rfl, hln, if_neg hlt, if_pos rfl]
      rw [e1]
      clear e1
      go_enter Try.func43, Try.ntmps43
      go_wp2_with (first
        | (refine wpList_allocZ rfl 34 rfl _ entry_zero2 ?_; intro w1 B1 F1 S1; have HB1 := Lib.hid B1; have HF1 := Lib.hid F1; have HS1 := Lib.hid S1; clear B1 F1 S1)
        | (refine wpList_buildV rfl 140 [(0, .tmp 9)] rfl [(0, .slice a n c)] (by rfl) _ (reader_build a n c _) ?_)
        | (refine wpList_boxB rfl 140 _ rfl [.slice a n c, .int .i64 0, .int .i64 0] (by rfl) ?_; intro w2 B2 F2 S2; have HB2 := Lib.hid B2; have HF2 := Lib.hid F2; have HS2 := Lib.hid S2; clear B2 F2 S2))
      have R2 : Rr w2 w1.heap.size a n c l (0, 0) := ⟨HB2.out, fun hne => by
        obtain ⟨b, o, ha, hlt⟩ := HR.out.lt hne
        have := HS1.out
        have := HS2.out
        obtain ⟨b', o', ha', hr'⟩ := (HR.out.fr0 (HF1.out.trans0 HF2.out)) hne
        have hbb : b' = b := by rw [ha] at ha'; injection ha' with h; injection h with h1; exact h1.symm
        subst hbb
        exact ⟨b', o', ha', by dsimp only; omega, by omega, hr'⟩, HS.out⟩
      refine (HC.out w2 w1.heap.size (by have := HS1.out; have := HS2.out; omega) R2).mono ?_
      rintro e w3 ⟨v, rfl, ⟨a3, k3, rfl, ho3⟩, hr3, hf3⟩
      have hne : w.heap.size ≠ w1.heap.size := by have := HS1.out; omega
      have HB3 := Lib.hid ((HB1.out.fr HF2.out (by simp)).fr hf3 (by simpa using hne))
      have HR3 := Lib.hid hr3
      have HO3 := Lib.hid ho3
      have HF3 := Lib.hid ((HF1.out.trans0 HF2.out).trans hf3 (fun k hk hlt => by have := HS1.out; rw [List.mem_singleton.1 hk] at hlt; omega))
      have HG3 := Lib.hid hf3
      clear hr3 ho3 hf3 R2
      go_wp2_with (first
        | (refine wpList_loadB rfl 34 _ rfl w.heap.size (by rfl) 34 _ _ HB4.out Try.underlying34 rfl (entry_size2 x a3 k3) ?_)
        | (refine wpList_storeB rfl 34 _ _ rfl w.heap.size 0 (x.cells a3 k3) (by rfl) (by rfl) 34 _ HB4.out (by rw [Ent.len]; omega) (entry_size2 x a3 k3) (x.one a3 k3) ?_; intro w5 B5 F5 S5; rw [splice_all _ _ (by rfl)] at B5; have HB5 := Lib.hid B5; have HF5 := Lib.hid F5; clear B5 F5 S5)
        | (refine wpList_storeB rfl 34 _ _ rfl w.heap.size 0 (x.cells a3 k3) (by rfl) (by rfl) 34 _ HB3.out (by rw [Ent.len, Ent.len]; omega) (entry_size2 x a3 k3) (x.one a3 k3) ?_; intro w4 B4 F4 S4; rw [splice_all _ _ (by rfl)] at B4; have hp4 := HR3.out.hp.fr F4 (by simpa using hne.symm); have c1 : w4.cell? ⟨w1.heap.size, 1, none⟩ = some (.int .i64 at1) := hp4.cellAt rfl; have c2 : w4.cell? ⟨w1.heap.size, 2, none⟩ = some (.int .i64 0) := hp4.cellAt rfl; have hpl := hp4.lt; have HP4 := Lib.hid hp4; clear hp4; have HB4 := Lib.hid B4; have HF4 := Lib.hid F4; have HS4 := Lib.hid S4; clear B4 F4 S4))
      have hobl : ∀ g ∈ ob (.slice a3 x.cmd.task.tickets.length k3), g ∉ [w.heap.size] := fun g hg hm => by
        obtain ⟨cur, hcur⟩ := HO3.out.cells hg
        exact HB3.out.ne hcur (by decide) (List.mem_singleton.1 hm).symm
      refine bodyPost_ret (results_cellB_tmp2 rfl _ _ w.heap.size 34 _ _ (by rfl) HB5.out Try.underlying34 rfl (entry_size2 x a3 k3)) rfl ⟨_, by rfl, ⟨a3, k3, rfl, (HO3.out.fr HF4.out hobl).fr HF5.out hobl⟩, ?_⟩
      exact (HF3.out.trans HF4.out (fun k hk hlt => by rw [List.mem_singleton.1 hk] at hlt; omega)).trans HF5.out (fun k hk hlt => by rw [List.mem_singleton.1 hk] at hlt; omega)
  · have e1 : decR l ent0 (x, at1, er1) = (ent0, at1, er1) := by unfold decR endR; dsimp only; rw [if_neg he, if_neg he]
    rw [e1]
    clear e1
    have hb1 : (er1 != 0) = true := by simpa using he
    have hb2 : (er1 == 0) = false := by simpa using he
    clear he
    go_enter Try.func43, Try.ntmps43
    go_wp2_with (first
      | (refine wpList_allocZ rfl 34 rfl _ entry_zero2 ?_; intro w1 B1 F1 S1; have HB1 := Lib.hid B1; have HF1 := Lib.hid F1; have HS1 := Lib.hid S1; clear B1 F1 S1)
      | (refine wpList_buildV rfl 140 [(0, .tmp 9)] rfl [(0, .slice a n c)] (by rfl) _ (reader_build a n c _) ?_)
      | (refine wpList_boxB rfl 140 _ rfl [.slice a n c, .int .i64 0, .int .i64 0] (by rfl) ?_; intro w2 B2 F2 S2; have HB2 := Lib.hid B2; have HF2 := Lib.hid F2; have HS2 := Lib.hid S2; clear B2 F2 S2))
    have R2 : Rr w2 w1.heap.size a n c l (0, 0) := ⟨HB2.out, fun hne => by
      obtain ⟨b, o, ha, hlt⟩ := HR.out.lt hne
      have := HS1.out
      have := HS2.out
      obtain ⟨b', o', ha', hr'⟩ := (HR.out.fr0 (HF1.out.trans0 HF2.out)) hne
      have hbb : b' = b := by rw [ha] at ha'; injection ha' with h; injection h with h1; exact h1.symm
      subst hbb
      exact ⟨b', o', ha', by dsimp only; omega, by omega, hr'⟩, HS.out⟩
    refine (HC.out w2 w1.heap.size (by have := HS1.out; have := HS2.out; omega) R2).mono ?_
    rintro e w3 ⟨v, rfl, ⟨a3, k3, rfl, ho3⟩, hr3, hf3⟩
    have hne : w.heap.size ≠ w1.heap.size := by have := HS1.out; omega
    have HB3 := Lib.hid ((HB1.out.fr HF2.out (by simp)).fr hf3 (by simpa using hne))
    have HR3 := Lib.hid hr3
    have HO3 := Lib.hid ho3
    have HF3 := Lib.hid ((HF1.out.trans0 HF2.out).trans hf3 (fun k hk hlt => by have := HS1.out; rw [List.mem_singleton.1 hk] at hlt; omega))
    have HG3 := Lib.hid hf3
    clear hr3 ho3 hf3 R2
    go_wp2_with (first
      | (have z := HP4.out; clear z; refine wpList_allocZ rfl 34 rfl _ entry_zero2 ?_; intro w6 B6 F6 S6; have HB6 := Lib.hid B6; have HF6 := Lib.hid F6; have HS6 := Lib.hid S6; have HP6 := Lib.hid (HP4.out.fr F6 (by simp)); have HB5 := Lib.hid (HB4.out); clear B6 F6 S6)
      | (refine wpList_storeB rfl 34 _ _ rfl w.heap.size 0 (x.cells a3 k3) (by rfl) (by rfl) 34 _ HB3.out (by rw [Ent.len, Ent.len]; omega) (entry_size2 x a3 k3) (x.one a3 k3) ?_; intro w4 B4 F4 S4; rw [splice_all _ _ (by rfl)] at B4; have hp4 := HR3.out.hp.fr F4 (by simpa using hne.symm); have c1 : w4.cell? ⟨w1.heap.size, 1, none⟩ = some (.int .i64 at1) := hp4.cellAt rfl; have c2 : w4.cell? ⟨w1.heap.size, 2, none⟩ = some (.int .i64 er1) := hp4.cellAt rfl; have hpl := hp4.lt; have HP4 := Lib.hid hp4; clear hp4; have HB4 := Lib.hid B4; have HF4 := Lib.hid F4; have HS4 := Lib.hid S4; clear B4 F4 S4))
    refine wp_region_ord (Fr [w.heap.size] w6) [0, 1, 2, 3, 4, 5, 6, 7, 8, 9, 10, 11] [] [9] [0, 4, 8] mixed (by kernel_rfl) ?_
    have hS : Fr [w.heap.size] w6 w6.drew := (Fr.refl _ _).drew
    have d1 : ∀ W, Fr [w.heap.size] w6 W → W.cell? ⟨w1.heap.size, 1, none⟩ = some (.int .i64 at1) := fun W f => (HP6.out.fr f (by simpa using hne.symm)).cellAt rfl
    have d2 : ∀ W, Fr [w.heap.size] w6 W → W.cell? ⟨w1.heap.size, 2, none⟩ = some (.int .i64 er1) := fun W f => (HP6.out.fr f (by simpa using hne.symm)).cellAt rfl
    simp only [pairs, pickN]
    refine wpO_take (.agg (ent0.cells none 0).toArray) hS (by rfl) (by rfl) (fun w' hw' => run_loadB 34 _ rfl w4.heap.size (by rfl) 34 _ _ (HB6.out.fr hw' (by have := HB5.out.lt; simp; omega)) Try.underlying34 rfl (entry_size2 ent0 none 0)) ?_
    simp only [Act.put, List.setIfInBounds_toArray, List.set_cons_zero, List.set_cons_succ]
    repeat (first | (refine wpO_free ?_ (by rfl) (by rfl) (fun w' => ?_) ?_; rotate_left; (go_simp; rfl); simp only [Act.put, List.setIfInBounds_toArray, List.set_cons_zero, List.set_cons_succ]) | (refine wpO_take ?_ hS (by rfl) (by rfl) (fun w' hw' => ?_) ?_; rotate_left; (go_simp; rfl); simp only [Act.put, List.setIfInBounds_toArray, List.set_cons_zero, List.set_cons_succ]) | (refine wpO_pass (by rfl) ?_; simp only [Act.put, List.setIfInBounds_toArray, List.set_cons_zero, List.set_cons_succ]))
    refine wpO_eff (by rfl) ?_
    refine wpList_storeB rfl 34 _ _ rfl w.heap.size 0 (ent0.cells none 0) (by rfl) (by rfl) 34 _ (Blk.drew (HB5.out.fr HF6.out (by simp))) (by rw [Ent.len, Ent.len]; omega) (entry_size2 ent0 none 0) (ent0.one none 0) ?_
    intro w7 B7 F7 S7
    rw [splice_all _ _ (by rfl)] at B7
    refine effQ_keep (hS.trans1 F7) ?_
    simp only [Act.put, List.setIfInBounds_toArray, List.set_cons_zero, List.set_cons_succ]
    repeat (first | (refine wpO_free ?_ (by rfl) (by rfl) (fun w' => ?_) ?_; rotate_left; (go_simp; rfl); simp only [Act.put, List.setIfInBounds_toArray, List.set_cons_zero, List.set_cons_succ]) | (refine wpO_pass (by rfl) ?_; simp only [Act.put, List.setIfInBounds_toArray, List.set_cons_zero, List.set_cons_succ]))
    refine wpO_nil ?_
    have HB7 := Lib.hid B7
    have HF7 := Lib.hid (hS.trans1 F7)
    clear d1 d2 hS B7 F7 S7
    go_wp2_with fail
    refine bodyPost_ret (results_cellB_tmp2 rfl _ _ w.heap.size 34 _ _ (by rfl) HB7.out Try.underlying34 rfl (entry_size2 ent0 none 0)) rfl ⟨_, by rfl, ⟨none, 0, rfl, Own.nil _ _ _ _⟩, ?_⟩
    exact (((HF3.out.trans HF4.out (fun k hk hlt => by rw [List.mem_singleton.1 hk] at hlt; omega))).trans0 HF6.out).trans HF7.out (fun k hk hlt => by rw [List.mem_singleton.1 hk] at hlt; omega)
set_option maxRecDepth 100000 in
set_option maxHeartbeats 1000000 in
theorem decodeE_calls {w : World} {base : Nat} {a : Option Addr} {n c : Nat} {l : List Int} (hbase : base ≤ w.heap.size) (hs : Src l a n c) (hr : Rd w a (bv l)) :
    Calls Try.prog 16 #[.slice a n c] w (DecE base EntO (decR l ent0 (rE l (0, 0))) w) := by
  have hC : ∀ W, Fr [] w W → Calls Try.prog 43 #[.slice a n c, .func (.func 44) #[] #[]] W (DecE base EntO (decR l ent0 (rE l (0, 0))) W) := fun W f => wholeE_calls (by have := f.size; omega) hs (hr.fr0 f)
  generalize decR l ent0 (rE l (0, 0)) = r at *
  obtain ⟨x, at1, er1⟩ := r
  have HC := Lib.hid hC
  clear hC hr hs
  go_enter Try.func16, Try.ntmps16
  go_wp2_with (refine wpList_allocZ rfl 34 rfl _ entry_zero2 ?_; intro w1 B1 F1 S1; have HB1 := Lib.hid B1; have HF1 := Lib.hid F1; have HS1 := Lib.hid S1; clear B1 F1 S1)
  refine (HC.out w1 HF1.out).mono ?_
  rintro e w3 ⟨v, rfl, ⟨a3, k3, rfl, ho3⟩, hf3⟩
  have HB3 := Lib.hid (HB1.out.fr hf3 (by simp))
  have HO3 := Lib.hid ho3
  have HF3 := Lib.hid (HF1.out.trans0 hf3)
  clear ho3 hf3
  dsimp only
  go_wp2_with (refine wpList_storeB rfl 34 _ _ rfl w.heap.size 0 (x.cells a3 k3) (by rfl) (by rfl) 34 _ HB3.out (by rw [Ent.len, Ent.len]; omega) (entry_size2 x a3 k3) (x.one a3 k3) ?_; intro w4 B4 F4 S4; rw [splice_all _ _ (by rfl)] at B4; have HB4 := Lib.hid B4; have HF4 := Lib.hid F4; clear B4 F4 S4)
  have hobl : ∀ g ∈ ob (.slice a3 x.cmd.task.tickets.length k3), g ∉ [w.heap.size] := fun g hg hm => by
    obtain ⟨cur, hcur⟩ := HO3.out.cells hg
    exact HB3.out.ne hcur (by decide) (List.mem_singleton.1 hm).symm
  refine bodyPost_ret (results_cellB_tmp2 rfl _ _ w.heap.size 34 _ _ (by rfl) HB4.out Try.underlying34 rfl (entry_size2 x a3 k3)) rfl ⟨_, by rfl, ⟨a3, k3, rfl, HO3.out.fr HF4.out hobl⟩, ?_⟩
  exact HF3.out.trans HF4.out (fun k hk hlt => by rw [List.mem_singleton.1 hk] at hlt; omega)
end Go.Fur
