/- A state; EncodeState: contract. -/
import Derived.Test.YtmdfipahbhbgjaaEachS
import Derived.Test.YtmdfipahbhbgjaaAns
namespace Go.Fur
open Go Go.RowKit Go.Proofs Go.Proofs.YtmdfipahbhbgjaaW.PrintWords
set_option linter.unusedVariables false
set_option linter.unusedSimpArgs false
section
variable {P : Program}
theorem wpList_alloc1 {ops : Array Oper} {rest : List Oper} {o : Oper} {a : Act} {w : World} {Q : Exit → Act → World → Prop} (hgd : o.guard = none) (t : TypeId) (ho : o.op = .alloc t)
    (v : Value) (hv : v.cells = #[v]) (hz : ∀ w, (zeroValue t).run P w = .ok v w)
    (h : ∀ w1 : World, Blk w1 w.heap.size t [v] → Fr [] w w1 → w1.heap.size = w.heap.size + 1 → wpList P ops Q rest (a.put o.dst (.pointer (some ⟨w.heap.size, 0, none⟩))) w1) : wpList P ops Q (o :: rest) a w :=
  wpList_plain hgd fun K hK => by
    have hr : (Instr.alloc t true (.tuple #[])).run P w = .ok (.pointer (some ⟨w.heap.size, 0, none⟩)) (w.alloc (.cells [v].toArray t)) := by
      simp [Instr.alloc, hz, newVar, newRow, hv]
    unfold Oper.wp execOp
    simp only [ho, Sem.run_bind, hr, Result.andThen_ok, Sem.run_pure]
    exact hK _ _ (h _ (Blk.new w t [v]) ((Fr.refl [] w).alloc _) (by simp))
end
structure Sta where
  long : Int
  patience : Int
  now : Int
  queues : List Que
  nodes : List Nod
  tasks : List Tas
  leases : List Lea
  hungry : List Hun
/-- Where the lists of a state lie. -/
structure StaP where
  a1 : Option Addr
  c1 : Nat
  a2 : Option Addr
  c2 : Nat
  a3 : Option Addr
  c3 : Nat
  a4 : Option Addr
  c4 : Nat
  a5 : Option Addr
  c5 : Nat
def Sta.cells (x : Sta) (s : StaP) : List Value := [.int .i64 x.long, .int .i64 x.patience, .int .i64 x.now, .slice s.a1 x.queues.length s.c1, .slice s.a2 x.nodes.length s.c2, .slice s.a3 x.tasks.length s.c3, .slice s.a4 x.leases.length s.c4, .slice s.a5 x.hungry.length s.c5]
def QueAt (w : World) (X : Nat → Prop) (cs : List Value) (t : Que) : Prop := cs = t.cells
def NodAt (w : World) (X : Nat → Prop) (cs : List Value) (t : Nod) : Prop := cs = t.cells
def HuAt (w : World) (X : Nat → Prop) (cs : List Value) (t : Hun) : Prop := cs = t.cells
/-- The lists of the state are there. -/
structure StaAt (w : World) (X : Nat → Prop) (x : Sta) (s : StaP) : Prop where
  q : ∃ css, RowA QueAt 7 w X s.a1 x.queues css
  n : ∃ css, RowA NodAt 5 w X s.a2 x.nodes css
  t : ∃ css, RowA TasAt 7 w X s.a3 x.tasks css
  l : ∃ css, RowA LeaAt 8 w X s.a4 x.leases css
  h : ∃ css, RowA HuAt 2 w X s.a5 x.hungry css
def Sta.ok (x : Sta) : Prop := (∀ y ∈ [x.long, x.patience, x.now], I64 y) ∧ (∀ t ∈ x.queues, t.ok) ∧ (∀ t ∈ x.nodes, t.ok) ∧ (∀ t ∈ x.tasks, t.ok) ∧ (∀ t ∈ x.leases, t.ok) ∧ ∀ t ∈ x.hungry, t.ok
def tasEr (t : Tas) (e : Int) : Int := cntE t.tickets.length e
def sameEr {τ : Type} (_ : τ) (e : Int) : Int := e
def Sta.er (x : Sta) : Int := eachEr (sameEr (τ := Hun)) x.hungry (eachEr leaEr x.leases (eachEr tasEr x.tasks (eachEr (sameEr (τ := Nod)) x.nodes (eachEr (sameEr (τ := Que)) x.queues 0))))
def qEnc (t : Que) : List Int := intsE t.ints
def nEnc (t : Nod) : List Int := intsE t.ints
def hEnc (t : Hun) : List Int := intsE t.ints
def Sta.enc (x : Sta) : List Int := intsE [x.long, x.patience, x.now] ++ eachE qEnc x.queues ++ eachE nEnc x.nodes ++ eachE Tas.enc x.tasks ++ eachE Lea.enc x.leases ++ eachE hEnc x.hungry
def encS (x : Sta) : List Int × Int := if x.er = 0 then (x.enc, 0) else ([], x.er)
def Sta.bulk (x : Sta) : Nat := x.queues.length + x.nodes.length + (x.tasks.map fun t => t.tickets.length + 1).sum + (x.leases.map fun t => t.cores.length + 1).sum + x.hungry.length
theorem sum_10T : ∀ l : List Tas, (l.map fun t => t.tickets.length + 10).sum ≤ 10 * (l.map fun t => t.tickets.length + 1).sum
  | [] => by simp
  | t :: l => by have := sum_10T l; simp only [List.map_cons, List.sum_cons]; omega
theorem len_1T : ∀ l : List Tas, l.length ≤ (l.map fun t => t.tickets.length + 1).sum
  | [] => by simp
  | t :: l => by have := len_1T l; simp only [List.map_cons, List.sum_cons, List.length_cons]; omega
theorem sum_c {τ : Type} (n : Nat) : ∀ l : List τ, (l.map fun _ => n + 10).sum = (n + 10) * l.length
  | [] => by simp
  | t :: l => by have := sum_c n l; simp only [List.map_cons, List.sum_cons, List.length_cons, Nat.mul_succ, this]; omega
theorem TasAt.fr0 {W W' : World} {X : Nat → Prop} {cs : List Value} {t : Tas} (f : Fr [] W W') (h : TasAt W X cs t) : TasAt W' X cs t := by
  obtain ⟨a, c, h1, h2⟩ := h
  exact ⟨a, c, h1, h2.fr0 f⟩
theorem TasAt.apart {w w' : World} {X : Nat → Prop} (f : Fr [] w w') (hX : ∀ k, X k → w.heap.size ≤ k) (cs : List Value) (t : Tas) (h : TasAt w X0 cs t) : TasAt w' X cs t := by
  obtain ⟨a, c, h1, h2⟩ := h
  exact ⟨a, c, h1, h2.step f (by simp) (fun k hk => .inr (hX k hk))⟩
theorem TasAt.ws {p : Nat} (W W' : World) (v v' : Value) (s : WS p v W W' v') (cs : List Value) (t : Tas) (h : TasAt W (Wx p v) cs t) : TasAt W' (Wx p v') cs t := by
  obtain ⟨a, c, h1, h2⟩ := h
  exact ⟨a, c, h1, s.rd h2⟩
theorem TasAt.one (w : World) (X : Nat → Prop) (cs : List Value) (t : Tas) (h : TasAt w X cs t) : ∀ u ∈ cs, u.oneCell' = true := by
  obtain ⟨a, c, rfl, _⟩ := h
  simp [Value.oneCell', Tas.cells]
theorem StaAt.fr0 {w w' : World} {X : Nat → Prop} {x : Sta} {s : StaP} (h : StaAt w X x s) (f : Fr [] w w') : StaAt w' X x s := by
  obtain ⟨⟨_, h1⟩, ⟨_, h2⟩, ⟨_, h3⟩, ⟨_, h4⟩, ⟨_, h5⟩⟩ := h
  exact ⟨⟨_, h1.fr0 f (fun _ _ _ _ _ h => h)⟩, ⟨_, h2.fr0 f (fun _ _ _ _ _ h => h)⟩, ⟨_, h3.fr0 f (fun _ _ _ _ f h => TasAt.fr0 f h)⟩, ⟨_, h4.fr0 f (fun _ _ _ _ f h => LeaAt.fr0 f h)⟩, ⟨_, h5.fr0 f (fun _ _ _ _ _ h => h)⟩⟩
theorem StaAt.apart {w w' : World} {X : Nat → Prop} {x : Sta} {s : StaP} (h : StaAt w X0 x s) (f : Fr [] w w') (hX : ∀ k, X k → w.heap.size ≤ k) : StaAt w' X x s := by
  obtain ⟨⟨_, h1⟩, ⟨_, h2⟩, ⟨_, h3⟩, ⟨_, h4⟩, ⟨_, h5⟩⟩ := h
  exact ⟨⟨_, h1.apart f hX (fun _ _ h => h)⟩, ⟨_, h2.apart f hX (fun _ _ h => h)⟩, ⟨_, h3.apart f hX (fun _ _ h => TasAt.apart f hX _ _ h)⟩, ⟨_, h4.apart f hX (fun _ _ h => LeaAt.apart f hX _ _ h)⟩, ⟨_, h5.apart f hX (fun _ _ h => h)⟩⟩
theorem StaAt.ws {p : Nat} {W W' : World} {v v' : Value} {x : Sta} {s : StaP} (h : StaAt W (Wx p v) x s) (k : WS p v W W' v') : StaAt W' (Wx p v') x s := by
  obtain ⟨⟨_, h1⟩, ⟨_, h2⟩, ⟨_, h3⟩, ⟨_, h4⟩, ⟨_, h5⟩⟩ := h
  exact ⟨⟨_, h1.ws k (fun _ _ _ _ _ _ _ h => h)⟩, ⟨_, h2.ws k (fun _ _ _ _ _ _ _ h => h)⟩, ⟨_, h3.ws k TasAt.ws⟩, ⟨_, h4.ws k LeaAt.ws⟩, ⟨_, h5.ws k (fun _ _ _ _ _ _ _ h => h)⟩⟩
theorem Que.oneA (w : World) (X : Nat → Prop) (cs : List Value) (t : Que) (h : QueAt w X cs t) : ∀ u ∈ cs, u.oneCell' = true := by
  rw [show cs = t.cells from h]; simp [Value.oneCell', Que.cells]
theorem Nod.oneA (w : World) (X : Nat → Prop) (cs : List Value) (t : Nod) (h : NodAt w X cs t) : ∀ u ∈ cs, u.oneCell' = true := by
  rw [show cs = t.cells from h]; simp [Value.oneCell', Nod.cells]
theorem Hun.oneA {q p : Nat} (w : World) (X : Nat → Prop) (cs : List Value) (t : Hun) (h : HunAt q p w X cs t) : ∀ u ∈ cs, u.oneCell' = true := by
  rw [show cs = t.cells from h.1]; simp [Value.oneCell', Hun.cells]
theorem state_size (x : Sta) (s : StaP) : (Try.prog.info? 58).map (·.size) = some (x.cells s).length := by
  have h : (x.cells s).length = 8 := rfl
  have h2 : (Try.prog.info? 58).map (·.size) = some 8 := by kernel_rfl
  rw [h, h2]
theorem pw_zero : ∀ w, (zeroValue 70).run Try.prog w = .ok (.pointer none) w := fun w => by kernel_rfl
theorem eachE_len {τ : Type} (enc : τ → List Int) (me : τ → Nat) (l : List τ) (h : ∀ t ∈ l, (enc t).length ≤ 9 * (me t + 10)) : (eachE enc l).length ≤ 9 * ((l.map fun t => me t + 10).sum + 1) := by
  have := flatMap_len enc me l h
  have := kl_le l.length
  unfold eachE
  rw [List.length_append, layN_length]
  omega
theorem qEnc_len (t : Que) : (qEnc t).length ≤ 9 * (1 + 10) := by have := intsE_length t.ints; have h : t.ints.length = 7 := rfl; unfold qEnc; omega
theorem nEnc_len (t : Nod) : (nEnc t).length ≤ 9 * (1 + 10) := by have := intsE_length t.ints; have h : t.ints.length = 5 := rfl; unfold nEnc; omega
theorem hEnc_len (t : Hun) : (hEnc t).length ≤ 9 * (1 + 10) := by have := intsE_length t.ints; have h : t.ints.length = 2 := rfl; unfold hEnc; omega
set_option maxRecDepth 100000 in
set_option maxHeartbeats 4000000 in
theorem encodeS_calls {w : World} {base : Nat} (hbase : base ≤ w.heap.size) (x : Sta) (s : StaP) (hr : StaAt w X0 x s) (hok : x.ok) (hlen : x.bulk ≤ 1048576) :
    Calls Try.prog 27 #[.agg (x.cells s).toArray] w (EncE base (encS x) w) := by
  have HQ := Lib.hid hok
  have HR := Lib.hid hr
  have hs10 := sum_10 x.leases
  have hs1 := len_1 x.leases
  have ht10 := sum_10T x.tasks
  have ht1 := len_1T x.tasks
  have hq1 := sum_c 1 x.queues
  have hn1 := sum_c 1 x.nodes
  have hh1 := sum_c 1 x.hungry
  have HE := Lib.hid (show intsE [x.long, x.patience, x.now] ++ eachE qEnc x.queues ++ eachE nEnc x.nodes ++ eachE Tas.enc x.tasks ++ eachE Lea.enc x.leases ++ eachE hEnc x.hungry = x.enc from rfl)
  have HER := Lib.hid (show eachEr (sameEr (τ := Hun)) x.hungry (eachEr leaEr x.leases (eachEr tasEr x.tasks (eachEr (sameEr (τ := Nod)) x.nodes (eachEr (sameEr (τ := Que)) x.queues 0)))) = x.er from rfl)
  have LQ := Lib.hid (eachE_len qEnc (fun _ => 1) x.queues (fun t _ => qEnc_len t))
  have LN := Lib.hid (eachE_len nEnc (fun _ => 1) x.nodes (fun t _ => nEnc_len t))
  have LT := Lib.hid (eachE_len Tas.enc (fun t => t.tickets.length) x.tasks (fun t _ => by have := t.enc_length; omega))
  have LL := Lib.hid (eachE_len Lea.enc (fun t => t.cores.length) x.leases (fun t _ => by have := t.enc_length; omega))
  unfold Sta.bulk at hlen
  clear hok hr
  go_enter Try.func27, Try.ntmps27
  go_wp2_with (first
    | (refine wpList_boxB rfl 58 _ rfl (x.cells s) (by rfl) ?_; intro w1 B1 F1 S1; have HB1 := Lib.hid B1; have HF1 := Lib.hid F1; have HS1 := Lib.hid S1; clear B1 F1 S1)
    | (refine wpList_buildV rfl 72 [] rfl [] (by rfl) _ (writer_build _) ?_)
    | (refine wpList_boxB rfl 72 _ rfl [.slice none 0 0, .int .i64 0] (by rfl) ?_; intro w2 B2 F2 S2; have HB2 := Lib.hid B2; have HF2 := Lib.hid F2; have HS2 := Lib.hid S2; clear B2 F2 S2)
    | (refine wpList_alloc1 rfl 70 rfl _ rfl pw_zero ?_; intro w3 B3 F3 S3; have HB3 := Lib.hid B3; have HF3 := Lib.hid F3; have HS3 := Lib.hid S3; clear B3 F3 S3)
    | (refine wpList_store1 rfl 70 _ _ rfl w2.heap.size 0 (.pointer (some ⟨w1.heap.size, 0, none⟩)) (by rfl) (by rfl) rfl 70 _ HB3.out (by simp) (by kernel_rfl) rfl ?_; intro w4 B4 F4 S4; have HE4 := ((HB1.out.fr HF2.out (by simp)).fr HF3.out (by simp)).fr F4 (by have := HS1.out; have := HS2.out; simp; omega); have c0 : w4.cell? ⟨w.heap.size, 0, none⟩ = some (.int .i64 x.long) := HE4.cellAt rfl; have c1 : w4.cell? ⟨w.heap.size, 1, none⟩ = some (.int .i64 x.patience) := HE4.cellAt rfl; have c2 : w4.cell? ⟨w.heap.size, 2, none⟩ = some (.int .i64 x.now) := HE4.cellAt rfl; have cp : w4.cell? ⟨w2.heap.size, 0, none⟩ = some (.pointer (some ⟨w1.heap.size, 0, none⟩)) := B4.cellAt rfl; have HB4 := Lib.hid ((HB2.out.fr HF3.out (by simp)).fr F4 (by have := HS2.out; simp; omega)); have HF4 := Lib.hid F4; have HC4 := Lib.hid HE4; have HP4 := Lib.hid B4; have HS4 := Lib.hid S4; clear B4 F4 S4 HE4)
    | (refine wpList_buildN rfl 81 2 3 [(0, .tmp 9), (1, .tmp 11), (2, .tmp 13)] rfl [(0, .int .i64 x.long), (1, .int .i64 x.patience), (2, .int .i64 x.now)] (by rfl) _ (buildI_3 x.long x.patience x.now) ?_; intro w5 B5 F5 S5; have HB5 := Lib.hid B5; have HF5 := Lib.hid F5; have HC5 := Lib.hid (HC4.out.fr F5 (by simp)); have HP5 := Lib.hid (HP4.out.fr F5 (by simp)); clear B5 F5 S5))
  have hpC : w.heap.size ≠ w1.heap.size := by have := HS1.out; omega
  have hpP : w2.heap.size ≠ w1.heap.size := by have := HS2.out; omega
  have V4 : Wr w4 w1.heap.size w1.heap.size (.slice none 0 0) [] 0 := ⟨HB4.out, Nat.le_refl _, Own.nil _ _ _ _⟩
  have FW : Fr [] w w5 := (((HF1.out.trans0 HF2.out).trans0 HF3.out).trans HF4.out (fun k hk hlt => by have := HS1.out; have := HS2.out; rw [List.mem_singleton.1 hk] at hlt; omega)).trans0 HF5.out
  have hX : ∀ k, Wx w1.heap.size (.slice none 0 0) k → w.heap.size ≤ k := fun k hk => by
    rcases hk with hk | hk
    · have := HS1.out; omega
    · simp [ob, Value.ownBlock] at hk
  have RA5 := HR.out.apart FW hX
  have hap := V4.ap (Nat.le_refl _)
  refine (int_calls (V4.fr0 HF5.out) (by have := HF5.out.size; have := HS2.out; have := HS3.out; have := HS4.out; omega) w4.heap.size 3 [x.long, x.patience, x.now] HB5.out hap.1 hap.2 3 rfl HQ.out.1 (by simp)).mono ?_
  rintro e w6 ⟨rfl, v6, hW6, hS6⟩
  have HC6 := Lib.hid (hS6.blk HC5.out hpC (by simp [ob, Value.ownBlock]))
  have HP6 := Lib.hid (hS6.blk HP5.out hpP (by simp [ob, Value.ownBlock]))
  have HA6 := Lib.hid (RA5.ws hS6)
  have HX6 := Lib.hid (hS6.pre FW)
  have HV6 := Lib.hid hW6
  have cp : w6.cell? ⟨w2.heap.size, 0, none⟩ = some (.pointer (some ⟨w1.heap.size, 0, none⟩)) := HP6.out.cellAt rfl
  have cl : w6.cell? ⟨w.heap.size, 3, none⟩ = some (.slice s.a1 x.queues.length s.c1) := HC6.out.cellAt rfl
  have hl3 := intsE_length [x.long, x.patience, x.now]
  simp only [List.length_cons, List.length_nil] at hl3
  clear hW6 hS6 c0 c1 c2 RA5 hap V4 HC5 HC4 HP5 HP4
  simp only [List.nil_append] at HV6
  generalize intsE [x.long, x.patience, x.now] = b6 at *
  go_wp2_with fail
  obtain ⟨css6, R6⟩ := HA6.out.q
  refine (eachQ_calls (enc := qEnc) (erf := sameEr) (me := fun _ => 1) HV6.out (by have := HV6.out.hp.lt; omega) s.a1 s.c1 x.queues css6 R6 (fun _ _ _ _ _ _ _ h => h) Que.oneA (fun t _ => qEnc_len t) _ rfl (fun W v bs er cs t hW hb hel hm hl => by rw [show cs = t.cells from hel]; exact queue_calls hW hb t (HQ.out.2.1 t hm) (by omega)) (by omega) (by omega)).mono ?_
  rintro e w7 ⟨rfl, v7, hW7, hS7⟩
  have HC7 := Lib.hid (hS7.blk HC6.out hpC (fun hm => Blk.ne_own HC6.out HV6.out.own (by decide) (mem_ob.1 hm)))
  have HP7 := Lib.hid (hS7.blk HP6.out hpP (fun hm => Blk.ne_own HP6.out HV6.out.own (by decide) (mem_ob.1 hm)))
  have HA7 := Lib.hid (HA6.out.ws hS7)
  have HX7 := Lib.hid (HX6.out.trans hS7)
  have HV7 := Lib.hid hW7
  have cp : w7.cell? ⟨w2.heap.size, 0, none⟩ = some (.pointer (some ⟨w1.heap.size, 0, none⟩)) := HP7.out.cellAt rfl
  have cl : w7.cell? ⟨w.heap.size, 4, none⟩ = some (.slice s.a2 x.nodes.length s.c2) := HC7.out.cellAt rfl
  clear hW7 hS7 HC6 HP6 HA6 HX6 HV6
  go_wp2_with fail
  obtain ⟨css7, R7⟩ := HA7.out.n
  refine (eachN_calls (enc := nEnc) (erf := sameEr) (me := fun _ => 1) HV7.out (by have := HV7.out.hp.lt; omega) s.a2 s.c2 x.nodes css7 R7 (fun _ _ _ _ _ _ _ h => h) Nod.oneA (fun t _ => nEnc_len t) _ rfl (fun W v bs er cs t hW hb hel hm hl => by rw [show cs = t.cells from hel]; exact node_calls hW hb t (HQ.out.2.2.1 t hm) (by omega)) (by have := LQ.out; simp only [List.length_append]; omega) (by omega)).mono ?_
  rintro e w8 ⟨rfl, v8, hW8, hS8⟩
  have HC8 := Lib.hid (hS8.blk HC7.out hpC (fun hm => Blk.ne_own HC7.out HV7.out.own (by decide) (mem_ob.1 hm)))
  have HP8 := Lib.hid (hS8.blk HP7.out hpP (fun hm => Blk.ne_own HP7.out HV7.out.own (by decide) (mem_ob.1 hm)))
  have HA8 := Lib.hid (HA7.out.ws hS8)
  have HX8 := Lib.hid (HX7.out.trans hS8)
  have HV8 := Lib.hid hW8
  have cp : w8.cell? ⟨w2.heap.size, 0, none⟩ = some (.pointer (some ⟨w1.heap.size, 0, none⟩)) := HP8.out.cellAt rfl
  have cl : w8.cell? ⟨w.heap.size, 5, none⟩ = some (.slice s.a3 x.tasks.length s.c3) := HC8.out.cellAt rfl
  clear hW8 hS8 HC7 HP7 HA7 HX7 HV7
  go_wp2_with fail
  obtain ⟨css8, R8⟩ := HA8.out.t
  refine (eachT_calls (enc := Tas.enc) (erf := tasEr) (me := fun t => t.tickets.length) HV8.out (by have := HV8.out.hp.lt; omega) s.a3 s.c3 x.tasks css8 R8 TasAt.ws TasAt.one (fun t _ => by have := t.enc_length; omega) _ rfl (fun W v bs er cs t hW hb hel hm hl => task_calls hW hb cs t hel (HQ.out.2.2.2.1 t hm) (by omega)) (by have := LQ.out; have := LN.out; simp only [List.length_append]; omega) (by omega)).mono ?_
  rintro e w9 ⟨rfl, v9, hW9, hS9⟩
  have HC9 := Lib.hid (hS9.blk HC8.out hpC (fun hm => Blk.ne_own HC8.out HV8.out.own (by decide) (mem_ob.1 hm)))
  have HP9 := Lib.hid (hS9.blk HP8.out hpP (fun hm => Blk.ne_own HP8.out HV8.out.own (by decide) (mem_ob.1 hm)))
  have HA9 := Lib.hid (HA8.out.ws hS9)
  have HX9 := Lib.hid (HX8.out.trans hS9)
  have HV9 := Lib.hid hW9
  have cp : w9.cell? ⟨w2.heap.size, 0, none⟩ = some (.pointer (some ⟨w1.heap.size, 0, none⟩)) := HP9.out.cellAt rfl
  have cl : w9.cell? ⟨w.heap.size, 6, none⟩ = some (.slice s.a4 x.leases.length s.c4) := HC9.out.cellAt rfl
  clear hW9 hS9 HC8 HP8 HA8 HX8 HV8
  go_wp2_with fail
  obtain ⟨css9, R9⟩ := HA9.out.l
  refine (eachL_calls (enc := Lea.enc) (erf := leaEr) (me := fun t => t.cores.length) HV9.out (by have := HV9.out.hp.lt; omega) s.a4 s.c4 x.leases css9 R9 LeaAt.ws LeaAt.one (fun t _ => by have := t.enc_length; omega) _ rfl (fun W v bs er cs t hW hb hel hm hl => lease_calls hW hb cs t hel (HQ.out.2.2.2.2.1 t hm) hl) (by have := LQ.out; have := LN.out; have := LT.out; simp only [List.length_append]; omega) (by omega)).mono ?_
  rintro e w10 ⟨rfl, v10, hW10, hS10⟩
  have HC10 := Lib.hid (hS10.blk HC9.out hpC (fun hm => Blk.ne_own HC9.out HV9.out.own (by decide) (mem_ob.1 hm)))
  have HP10 := Lib.hid (hS10.blk HP9.out hpP (fun hm => Blk.ne_own HP9.out HV9.out.own (by decide) (mem_ob.1 hm)))
  have HA10 := Lib.hid (HA9.out.ws hS10)
  have HX10 := Lib.hid (HX9.out.trans hS10)
  have HV10 := Lib.hid hW10
  have cp : w10.cell? ⟨w2.heap.size, 0, none⟩ = some (.pointer (some ⟨w1.heap.size, 0, none⟩)) := HP10.out.cellAt rfl
  have cl : w10.cell? ⟨w.heap.size, 7, none⟩ = some (.slice s.a5 x.hungry.length s.c5) := HC10.out.cellAt rfl
  clear hW10 hS10 HC9 HP9 HA9 HX9 HV9
  go_wp2_with fail
  obtain ⟨css10, R10⟩ := HA10.out.h
  have hPw : PwAt w10 (Wx w1.heap.size v10) w2.heap.size w1.heap.size := ⟨HP10.out, fun hx => by
    rcases hx with hx | hx
    · exact hpP hx
    · exact Blk.ne_own HP10.out HV10.out.own (by decide) (mem_ob.1 hx)⟩
  have RH : RowA (HunAt w2.heap.size w1.heap.size) 2 w10 (Wx w1.heap.size v10) s.a5 x.hungry css10 := ⟨R10.rd, R10.len, fun i cs t h1 h2 => ⟨(R10.each i cs t h1 h2).1, (R10.each i cs t h1 h2).2, hPw⟩⟩
  refine (eachH_calls (enc := hEnc) (erf := sameEr) (me := fun _ => 1) HV10.out (by have := HV10.out.hp.lt; omega) s.a5 s.c5 x.hungry css10 RH (fun W W' v v' k cs t h => ⟨h.1, PwAt.ws W W' v v' k h.2⟩) Hun.oneA (fun t _ => hEnc_len t) _ w2.heap.size rfl (fun W v bs er cs t hW hb hel hm hl => hun_calls hW hb _ cs t hel (HQ.out.2.2.2.2.2 t hm) (by omega)) (by have := LQ.out; have := LN.out; have := LT.out; have := LL.out; simp only [List.length_append]; omega) (by omega)).mono ?_
  rintro e w11 ⟨rfl, v11, hW11, hS11⟩
  have HX11 := Lib.hid (HX10.out.trans hS11)
  have HP11 := Lib.hid (hS11.blk HP10.out hpP (fun hm => Blk.ne_own HP10.out HV10.out.own (by decide) (mem_ob.1 hm)))
  have HV11 := Lib.hid hW11
  have cp : w11.cell? ⟨w2.heap.size, 0, none⟩ = some (.pointer (some ⟨w1.heap.size, 0, none⟩)) := HP11.out.cellAt rfl
  rw [HE.out, HER.out] at HV11
  have FE : Fr [] w w11 := HX11.out.fr.mono (fun k hk hlt => by
    have := HS1.out
    rcases List.mem_cons.1 hk with h | h
    · omega
    · simp [ob, Value.ownBlock] at h)
  have HFE := Lib.hid FE
  have hbb : base ≤ w1.heap.size := by have := HS1.out; omega
  clear hW11 hS11 FE HX11 HX10 HC10 HP10 HA10 HV10 RH hPw R10
  have hen : encS x = if x.er = 0 then (x.enc, 0) else ([], x.er) := rfl
  generalize encS x = ea at *
  generalize x.er = er at *
  by_cases he : er = 0
  · subst he
    rw [if_pos rfl] at hen
    subst hen
    go_wp2_with fail
    refine (done_calls HV11.out).mono ?_
    rintro e w12 ⟨hd, _, hf⟩
    obtain rfl := hd rfl
    have HF := Lib.hid hf
    clear hf hd
    go_wp2_with fail
    go_ret2
    exact ⟨v11, rfl, (HV11.out.own.fr0 HF.out).base hbb, HFE.out.trans0 HF.out⟩
  · rw [if_neg he] at hen
    subst hen
    have HNE := Lib.hid he
    clear he
    go_wp2_with fail
    refine (done_calls HV11.out).mono ?_
    rintro e w12 ⟨_, hd, hf⟩
    obtain rfl := hd HNE.out
    have HF := Lib.hid hf
    clear hf hd
    go_wp2_with fail
    go_ret2
    exact ⟨.slice none 0 0, rfl, Own.nil _ _ _ _, HFE.out.trans0 HF.out⟩
end Go.Fur
