/- EncodeAnswer, and the document's Answer: contracts. -/
import Derived.Test.YtmdfipahbhbgjaaRefL
import Derived.Test.YtmdfipahbhbgjaaCmdE
namespace Go.Fur
open Go Go.RowKit Go.Proofs Go.Proofs.YtmdfipahbhbgjaaW.PrintWords
set_option linter.unusedVariables false
set_option linter.unusedSimpArgs false
/-- An answer. -/
structure Ans where
  err : Int
  task : Int
  node : Int
  cores : List Int
  leases : List Lea
def Ans.cells (x : Ans) (a : Option Addr) (c : Nat) (b : Option Addr) (d : Nat) : List Value := [.int .i64 x.err, .int .i64 x.task, .int .i64 x.node, .slice a x.cores.length c, .slice b x.leases.length d]
def Ans.ok (x : Ans) : Prop := (∀ y ∈ [x.err, x.task, x.node], I64 y) ∧ (∀ y ∈ x.cores, I64 y) ∧ ∀ t ∈ x.leases, t.ok
def leaEr (t : Lea) (e : Int) : Int := cntE t.cores.length e
def Ans.er (x : Ans) : Int := eachEr leaEr x.leases (cntE x.cores.length 0)
def Ans.enc (x : Ans) : List Int := intsE [x.err, x.task, x.node] ++ listE x.cores ++ eachE Lea.enc x.leases
def encA (x : Ans) : List Int × Int := if x.er = 0 then (x.enc, 0) else ([], x.er)
def Ans.bulk (x : Ans) : Nat := x.cores.length + (x.leases.map fun t => t.cores.length + 1).sum
theorem cnt_3 (n : Nat) : cntE n 3 = 3 := by unfold cntE; split <;> rfl
theorem fold_3 : ∀ l : List Lea, l.foldl (fun e t => leaEr t e) 3 = 3
  | [] => rfl
  | t :: l => by rw [List.foldl_cons]; unfold leaEr; rw [cnt_3]; exact fold_3 l
theorem fold_short : ∀ (l : List Lea) (e : Int), l.foldl (fun e t => leaEr t e) e = if (∀ t ∈ l, t.cores.length ≤ 1024) then e else 3
  | [], e => by simp
  | t :: l, e => by
    rw [List.foldl_cons]
    by_cases h : 1024 < t.cores.length
    · have e1 : leaEr t e = 3 := by unfold leaEr cntE; rw [if_pos h]
      rw [e1, fold_3, if_neg (fun hh => by have := hh t List.mem_cons_self; omega)]
    · have e1 : leaEr t e = e := by unfold leaEr cntE; rw [if_neg h]
      rw [e1, fold_short l e]
      simp only [List.mem_cons, forall_eq_or_imp]
      by_cases hl : ∀ t ∈ l, t.cores.length ≤ 1024
      · rw [if_pos hl, if_pos ⟨by omega, hl⟩]
      · rw [if_neg hl, if_neg (fun hh => hl hh.2)]
theorem each_short (l : List Lea) (e : Int) : eachEr leaEr l e = if shortL l = true then e else 3 := by
  unfold eachEr
  rw [fold_short]
  unfold shortL
  simp only [decide_eq_true_eq]
  by_cases h1 : ∀ t ∈ l, t.cores.length ≤ 1024
  · by_cases h2 : l.length ≤ 1024
    · rw [if_pos h1, if_pos ⟨h1, h2⟩]; unfold cntE; rw [if_neg (by omega)]
    · rw [if_pos h1, if_neg (fun h => h2 h.2)]; unfold cntE; rw [if_pos (by omega)]
  · rw [if_neg h1, if_neg (fun h => h1 h.1)]
theorem Ans.er_is (x : Ans) : x.er = if 1024 < x.cores.length ∨ shortL x.leases = false then 3 else 0 := by
  unfold Ans.er
  rw [each_short]
  cases hs : shortL x.leases
  · rw [if_neg (by simp), if_pos (.inr rfl)]
  · rw [if_pos rfl]
    unfold cntE
    by_cases h : 1024 < x.cores.length
    · rw [if_pos h, if_pos (.inl h)]
    · rw [if_neg h, if_neg (by simp; omega)]
theorem sum_10 : ∀ l : List Lea, (l.map fun t => t.cores.length + 10).sum ≤ 10 * (l.map fun t => t.cores.length + 1).sum
  | [] => by simp
  | t :: l => by have := sum_10 l; simp only [List.map_cons, List.sum_cons]; omega
theorem len_1 : ∀ l : List Lea, l.length ≤ (l.map fun t => t.cores.length + 1).sum
  | [] => by simp
  | t :: l => by have := len_1 l; simp only [List.map_cons, List.sum_cons, List.length_cons]; omega
theorem RowA.apart {τ : Type} {EL : World → (Nat → Prop) → List Value → τ → Prop} {k : Nat} {w w' : World} {X : Nat → Prop} {a : Option Addr} {l : List τ} {css : List (List Value)} (h : RowA EL k w X0 a l css) (f : Fr [] w w') (hX : ∀ k, X k → w.heap.size ≤ k)
    (hEL : ∀ cs t, EL w X0 cs t → EL w' X cs t) : RowA EL k w' X a l css :=
  ⟨h.rd.step f (by simp) (fun k hk => .inr (hX k hk)), h.len, fun i cs t h1 h2 => ⟨(h.each i cs t h1 h2).1, hEL _ _ (h.each i cs t h1 h2).2⟩⟩
theorem LeaAt.apart {w w' : World} {X : Nat → Prop} (f : Fr [] w w') (hX : ∀ k, X k → w.heap.size ≤ k) (cs : List Value) (t : Lea) (h : LeaAt w X0 cs t) : LeaAt w' X cs t := by
  obtain ⟨a, c, h1, h2⟩ := h
  exact ⟨a, c, h1, h2.step f (by simp) (fun k hk => .inr (hX k hk))⟩
theorem LeaAt.ws {p : Nat} (W W' : World) (v v' : Value) (s : WS p v W W' v') (cs : List Value) (t : Lea) (h : LeaAt W (Wx p v) cs t) : LeaAt W' (Wx p v') cs t := by
  obtain ⟨a, c, h1, h2⟩ := h
  exact ⟨a, c, h1, s.rd h2⟩
theorem LeaAt.one (w : World) (X : Nat → Prop) (cs : List Value) (t : Lea) (h : LeaAt w X cs t) : ∀ u ∈ cs, u.oneCell' = true := by
  obtain ⟨a, c, rfl, _⟩ := h
  exact t.one3 a c
theorem answer_size (x : Ans) (a : Option Addr) (c : Nat) (b : Option Addr) (d : Nat) : (Try.prog.info? 49).map (·.size) = some (x.cells a c b d).length := by
  have h : (x.cells a c b d).length = 5 := rfl
  have h2 : (Try.prog.info? 49).map (·.size) = some 5 := by kernel_rfl
  rw [h, h2]
set_option maxRecDepth 100000 in
set_option maxHeartbeats 2000000 in
theorem encodeA_calls {w : World} {base : Nat} (hbase : base ≤ w.heap.size) (x : Ans) (a : Option Addr) (c : Nat) (b : Option Addr) (d : Nat) (css : List (List Value)) (hr : RdA w X0 a (iv x.cores)) (hrow : RowA LeaAt 8 w X0 b x.leases css) (hok : x.ok) (hlen : x.bulk ≤ 1048576) :
    Calls Try.prog 24 #[.agg (x.cells a c b d).toArray] w (EncE base (encA x) w) := by
  have HQ := Lib.hid hok
  have HR := Lib.hid hr
  have HW := Lib.hid hrow
  have hs10 := sum_10 x.leases
  have hs1 := len_1 x.leases
  unfold Ans.bulk at hlen
  clear hok hr hrow
  go_enter Try.func24, Try.ntmps24
  go_wp2_with (first
    | (refine wpList_boxB rfl 49 _ rfl (x.cells a c b d) (by rfl) ?_; intro w1 B1 F1 S1; have HB1 := Lib.hid B1; have HF1 := Lib.hid F1; have HS1 := Lib.hid S1; clear B1 F1 S1)
    | (refine wpList_buildV rfl 72 [] rfl [] (by rfl) _ (writer_build _) ?_)
    | (refine wpList_boxB rfl 72 _ rfl [.slice none 0 0, .int .i64 0] (by rfl) ?_; intro w2 B2 F2 S2; have HE2 := HB1.out.fr F2 (by simp); have c0 : w2.cell? ⟨w.heap.size, 0, none⟩ = some (.int .i64 x.err) := HE2.cellAt rfl; have c1 : w2.cell? ⟨w.heap.size, 1, none⟩ = some (.int .i64 x.task) := HE2.cellAt rfl; have c2 : w2.cell? ⟨w.heap.size, 2, none⟩ = some (.int .i64 x.node) := HE2.cellAt rfl; have HB2 := Lib.hid B2; have HF2 := Lib.hid F2; have HS2 := Lib.hid S2; have HC2 := Lib.hid HE2; clear B2 F2 S2 HE2)
    | (refine wpList_buildN rfl 81 2 3 [(0, .tmp 9), (1, .tmp 11), (2, .tmp 13)] rfl [(0, .int .i64 x.err), (1, .int .i64 x.task), (2, .int .i64 x.node)] (by rfl) _ (buildI_3 x.err x.task x.node) ?_; intro w3 B3 F3 S3; have HB3 := Lib.hid B3; have HF3 := Lib.hid F3; have HC3 := Lib.hid (HC2.out.fr F3 (by simp)); clear B3 F3 S3))
  have hpC : w.heap.size ≠ w1.heap.size := by have := HS1.out; omega
  have W2 : Wr w2 w1.heap.size w1.heap.size (.slice none 0 0) [] 0 := ⟨HB2.out, Nat.le_refl _, Own.nil _ _ _ _⟩
  have FW : Fr [] w w3 := (HF1.out.trans0 HF2.out).trans0 HF3.out
  have hX : ∀ k, Wx w1.heap.size (.slice none 0 0) k → w.heap.size ≤ k := fun k hk => by
    rcases hk with hk | hk
    · have := HS1.out; omega
    · simp [ob, Value.ownBlock] at hk
  have RA3 : RdA w3 (Wx w1.heap.size (.slice none 0 0)) a (iv x.cores) := HR.out.step FW (by simp) (fun k hk => .inr (hX k hk))
  have RW3 := HW.out.apart FW hX (fun cs t h => LeaAt.apart FW hX cs t h)
  have hap := W2.ap (Nat.le_refl _)
  refine (int_calls (W2.fr0 HF3.out) (by have := HF3.out.size; have := HS2.out; omega) w2.heap.size 3 [x.err, x.task, x.node] HB3.out hap.1 hap.2 3 rfl HQ.out.1 (by simp)).mono ?_
  rintro e w4 ⟨rfl, v4, hW4, hS4⟩
  have HC4 := Lib.hid (hS4.blk HC3.out hpC (by simp [ob, Value.ownBlock]))
  have HA4 := Lib.hid (hS4.rd RA3)
  have HW4 := Lib.hid (RW3.ws hS4 LeaAt.ws)
  have HX4 := Lib.hid (hS4.pre FW)
  have HV4 := Lib.hid hW4
  have c3 : w4.cell? ⟨w.heap.size, 3, none⟩ = some (.slice a x.cores.length c) := HC4.out.cellAt rfl
  have hl3 := intsE_length [x.err, x.task, x.node]
  simp only [List.length_cons, List.length_nil] at hl3
  have HE := Lib.hid (show intsE [x.err, x.task, x.node] ++ listE x.cores ++ eachE Lea.enc x.leases = x.enc from rfl)
  have HER := Lib.hid (show eachEr leaEr x.leases (cntE x.cores.length 0) = x.er from rfl)
  clear hW4 hS4 c0 c1 c2 RA3 RW3 hap W2 HC3 HC2
  simp only [List.nil_append] at HV4
  generalize intsE [x.err, x.task, x.node] = b4 at *
  go_wp2_with fail
  refine (list_calls HV4.out (by have := HX4.out.fr.size; have := HS1.out; have := HF2.out.size; have := HV4.out.hp.lt; omega) a x.cores.length c x.cores rfl HA4.out HQ.out.2.1 (by omega)).mono ?_
  rintro e w5 ⟨rfl, v5, hW5, hS5⟩
  have HC5 := Lib.hid (hS5.blk HC4.out hpC (fun hm => Blk.ne_own HC4.out HV4.out.own (by decide) (mem_ob.1 hm)))
  have HW5 := Lib.hid (HW4.out.ws hS5 LeaAt.ws)
  have HX5 := Lib.hid (HX4.out.trans hS5)
  have HV5 := Lib.hid hW5
  have c4 : w5.cell? ⟨w.heap.size, 4, none⟩ = some (.slice b x.leases.length d) := HC5.out.cellAt rfl
  have hl4 := listE_length x.cores
  clear hW5 hS5 c3
  generalize listE x.cores = b5 at *
  go_wp2_with fail
  refine (eachL_calls (enc := Lea.enc) (erf := leaEr) (me := fun t => t.cores.length) HV5.out (by have := HV5.out.hp.lt; omega) b d x.leases css HW5.out LeaAt.ws LeaAt.one (fun t _ => by have := t.enc_length; omega) _ rfl (fun W v bs er cs t hW hb hel hm hl => lease_calls hW hb cs t hel (HQ.out.2.2 t hm) hl) (by rw [List.length_append]; omega) (by omega)).mono ?_
  rintro e w6 ⟨rfl, v6, hW6, hS6⟩
  have HX6 := Lib.hid (HX5.out.trans hS6)
  have HV6 := Lib.hid hW6
  rw [HE.out, HER.out] at HV6
  have FE : Fr [] w w6 := HX6.out.fr.mono (fun k hk hlt => by
    have := HS1.out
    rcases List.mem_cons.1 hk with h | h
    · omega
    · simp [ob, Value.ownBlock] at h)
  have HFE := Lib.hid FE
  have hbb : base ≤ w1.heap.size := by have := HS1.out; omega
  clear hW6 hS6 c4 FE HX6 HX5 HX4 HC4 HC5 HW4 HW5 HA4
  have hen : encA x = if x.er = 0 then (x.enc, 0) else ([], x.er) := rfl
  generalize encA x = ea at *
  generalize x.er = er at *
  by_cases he : er = 0
  · subst he
    rw [if_pos rfl] at hen
    subst hen
    go_wp2_with fail
    refine (done_calls HV6.out).mono ?_
    rintro e w7 ⟨hd, _, hf⟩
    obtain rfl := hd rfl
    have HF := Lib.hid hf
    clear hf hd
    go_wp2_with fail
    go_ret2
    exact ⟨v6, rfl, (HV6.out.own.fr0 HF.out).base hbb, HFE.out.trans0 HF.out⟩
  · rw [if_neg he] at hen
    subst hen
    have HNE := Lib.hid he
    clear he
    go_wp2_with fail
    refine (done_calls HV6.out).mono ?_
    rintro e w7 ⟨_, hd, hf⟩
    obtain rfl := hd HNE.out
    have HF := Lib.hid hf
    clear hf hd
    go_wp2_with fail
    go_ret2
    exact ⟨.slice none 0 0, rfl, Own.nil _ _ _ _, HFE.out.trans0 HF.out⟩
end Go.Fur
