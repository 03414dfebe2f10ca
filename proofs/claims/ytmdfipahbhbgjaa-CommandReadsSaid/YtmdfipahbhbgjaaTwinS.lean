/- TwinLeases, TwinState: contracts. -/
import Derived.Test.YtmdfipahbhbgjaaSta
import Derived.Test.YtmdfipahbhbgjaaRowW
import Derived.Test.YtmdfipahbhbgjaaEnt10
namespace Go.Fur
open Go Go.RowKit Go.Proofs Go.Proofs.YtmdfipahbhbgjaaW.PrintWords
set_option linter.unusedVariables false
set_option linter.unusedSimpArgs false
/-- A task, a lease of one's own. -/
def TasW (base : Nat) (w : World) (cs : List Value) (t : Tas) : Prop := ∃ a c, cs = t.cells a c ∧ Own w base 3 1 (.slice a t.tickets.length c) t.tickets.length (iv t.tickets)
def LeaW (base : Nat) (w : World) (cs : List Value) (t : Lea) : Prop := ∃ a c, cs = t.cells a c ∧ Own w base 3 1 (.slice a t.cores.length c) t.cores.length (iv t.cores)
theorem TasW.frT {base : Nat} {w w' : World} {S : List Nat} {e : TypeId} (hS : ∀ g ∈ S, ∃ cur, Blk w g e cur) (f : Fr S w w') (he : (3 : TypeId) ≠ e) {cs : List Value} {t : Tas} (h : TasW base w cs t) : TasW base w' cs t := by
  obtain ⟨a, c, h1, h2⟩ := h
  exact ⟨a, c, h1, h2.fr f (fun g hg hm => by
    obtain ⟨c1, b1⟩ := h2.blkOf hg
    obtain ⟨c2, b2⟩ := hS g hm
    exact b1.ne b2 he rfl)⟩
theorem LeaW.frT {base : Nat} {w w' : World} {S : List Nat} {e : TypeId} (hS : ∀ g ∈ S, ∃ cur, Blk w g e cur) (f : Fr S w w') (he : (3 : TypeId) ≠ e) {cs : List Value} {t : Lea} (h : LeaW base w cs t) : LeaW base w' cs t := by
  obtain ⟨a, c, h1, h2⟩ := h
  exact ⟨a, c, h1, h2.fr f (fun g hg hm => by
    obtain ⟨c1, b1⟩ := h2.blkOf hg
    obtain ⟨c2, b2⟩ := hS g hm
    exact b1.ne b2 he rfl)⟩
theorem TasW.at {base : Nat} {w : World} {cs : List Value} {t : Tas} (h : TasW base w cs t) : TasAt w X0 cs t := by
  obtain ⟨a, c, h1, h2⟩ := h
  exact ⟨a, c, h1, (h2.rdS (X := X0) (fun _ _ h => h)).1⟩
theorem LeaW.at {base : Nat} {w : World} {cs : List Value} {t : Lea} (h : LeaW base w cs t) : LeaAt w X0 cs t := by
  obtain ⟨a, c, h1, h2⟩ := h
  exact ⟨a, c, h1, (h2.rdS (X := X0) (fun _ _ h => h)).1⟩
def zLease : List Value := [.int .i64 0, .int .i64 0, .int .i64 0, .slice none 0 0, .int .i64 0, .int .i64 0, .int .i64 0, .bool false]
theorem info_leaseZ : (Try.prog.info? 124).map (fun i => (i.zero.map (·.cells), i.size, i.bytes)) = some (some zLease.toArray, 8, 80) := by kernel_rfl
theorem info_taskZ : (Try.prog.info? 30).map (fun i => (i.zero.map (·.cells), i.size, i.bytes)) = some (some (tas0.cells none 0).toArray, 7, 72) := by kernel_rfl
theorem sum_mem1 (l : List Lea) (t : Lea) (h : t ∈ l) : t.cores.length + 1 ≤ (l.map fun t => t.cores.length + 1).sum := by
  induction l with
  | nil => cases h
  | cons x l ih =>
    simp only [List.map_cons, List.sum_cons]
    rcases List.mem_cons.1 h with rfl | h
    · omega
    · have := ih h; omega
def TwinLR (w : World) (l : List Lea) (v i : Value) (wr : World) : Prop := ∃ k : Nat, k ≤ l.length ∧ i = .int .i64 k ∧ RowW (LeaW w.heap.size) 8 124 w.heap.size wr v (l.take k) ∧ Fr [] w wr
set_option maxRecDepth 100000 in
set_option maxHeartbeats 2000000 in
theorem twinL_calls {w : World} (a : Option Addr) (c : Nat) (l : List Lea) (css : List (List Value)) (hrow : RowA LeaAt 8 w X0 a l css) (hlen : (l.map fun t => t.cores.length + 1).sum ≤ 1048576) :
    Calls Try.prog 67 #[.slice a l.length c] w (OwnE w.heap.size (fun b l v w' => RowW (LeaW b) 8 124 b w' v l) l w) := by
  have HA := Lib.hid hrow
  have hl1 := len_1 l
  clear hrow
  go_enter Try.func67, Try.ntmps67
  go_wp2_with fail
  go_loopw [3, 8] (fun v i wr => TwinLR w l v i wr) (fun _ i _ => l.length - (intOf i).toNat)
  case atStart => exact ⟨0, Nat.zero_le _, rfl, RowW.nil _, Fr.refl _ _⟩
  case round =>
    obtain ⟨k, hk, rfl, hW, hF⟩ := hrel
    rcases Nat.lt_or_ge k l.length with hlt | hge
    · obtain ⟨t, ht⟩ : ∃ t, l[k]? = some t := ⟨l[k], List.getElem?_eq_getElem hlt⟩
      have kb : (k : Int) < (l.length : Int) := by omega
      obtain ⟨b, o, cs, rfl, hb, hx, hcl, ⟨a1, c1, rfl, ra⟩, hrg⟩ := (HA.out.fr0 hF (fun _ _ _ _ f h => LeaAt.fr0 f h)).get (by decide) ht
      have hsn : l.take (k + 1) = l.take k ++ [t] := by rw [List.take_add_one, ht]; rfl
      have hlk : (l.take k).length = k := by rw [List.length_take]; omega
      have hsm := sum_mem1 l t (List.mem_of_getElem? ht)
      have HRG := Lib.hid hrg
      have HRA := Lib.hid ra
      have HH := Lib.hid (And.intro hW hF)
      have HSN := Lib.hid hsn
      have hz := hF.size
      clear hW hF hrg ra hcl ht hsn
      go_wp2_with (first
        | (have z := HR7.out; clear z; refine wpList_appW rfl _ _ 47 47 rfl w.heap.size 124 124 zLease 8 80 Try.underlying47 Try.underlying47 info_leaseZ rfl (by decide) _ (l.take k) (by rfl) HR7.out _ 1 (by rfl) 124 (t.cells g5 k5) HB7.out rfl (t.one3 g5 k5) t HW7.out (by rw [hlk]; simp only [maxLen]; omega) (by rw [hlk]; omega) (by have := HF7.out.size; omega) (fun w' cs t f h => LeaW.frT (fun g hg => HR7.out.blkOf hg) f (by decide) h) ?_; intro v8 w8 R8 F8 K8; have HR8 := Lib.hid R8; have HF8 := Lib.hid ((HH.out.2.trans0 HF7.out).trans F8 (fun x hx hlt => by have := (HR7.out.lt hx).1; omega)); clear R8 F8 K8)
        | (have z := HC6.out; clear z; refine wpList_buildSlice1 rfl 47 124 _ rfl zLease 8 80 Try.underlying47 info_leaseZ (by rfl) (by omega) (by omega) _ (t.cells g5 k5) (by rfl) (by rfl) (by rfl) ?_; intro w7 B7 F7 S7; have HB7 := Lib.hid B7; have HF7 := Lib.hid (HF6.out.trans0 F7); have HW7 := Lib.hid (show LeaW w.heap.size w7 (t.cells g5 k5) t from ⟨g5, k5, rfl, (HO6.out.fr0 F7).base (by omega)⟩); have HR7 := Lib.hid (HH.out.1.fr (HF6.out.trans0 F7) (by simp) (fun cs t h => LeaW.frT (e := 30) (by simp) (HF6.out.trans0 F7) (by decide) h)); clear B7 F7 S7)
        | (have z := HC6.out; clear z; refine wpList_loadB rfl 124 _ rfl wr.heap.size (by rfl) 124 _ _ HC6.out Try.underlying124 rfl (lease_size3 t g5 k5) ?_)
        | (have z := HO5.out; clear z; refine wpList_store1 rfl 28 _ _ rfl wr.heap.size 3 (.slice g5 t.cores.length k5) (by rfl) (by rfl) rfl 124 _ HC5.out (by simp [Lea.cells]) (by kernel_rfl) rfl ?_; intro w6 B6 F6 S6; have HC6 := Lib.hid (show Blk w6 wr.heap.size 124 (t.cells g5 k5) from B6); have HO6 := Lib.hid (HO5.out.fr F6 (fun g hg hm => by have := (HO5.out.lt hg).1; rw [List.mem_singleton.1 hm] at this; omega)); have HF6 := Lib.hid (HF5.out.trans F6 (fun k hk hlt => by rw [List.mem_singleton.1 hk] at hlt; omega)); clear B6 F6 S6)
        | (have z := HO4.out; clear z; refine wpList_appB rfl _ _ 28 28 rfl w3.heap.size 3 3 .i64 8 Try.underlying28 Try.underlying28 info_int _ 0 [] (by rfl) HO4.out a1 t.cores.length c1 (iv t.cores) (by rfl) ((HRA.out.rd.fr0 HF3.out).fr0 HF4.out) (by simp [iv]) (iv_one3 _) (by simp only [maxLen]; omega) (by omega) (by have := HS4.out; omega) ?_; intro v5 w5 O5 F5 K5 _; rw [List.nil_append, Nat.zero_add] at O5; obtain ⟨g5, k5, hv5, _⟩ := O5.form; subst hv5; have HO5 := Lib.hid (O5.base (base' := wr.heap.size + 1) (by have := HS2.out; have := HS3.out; omega)); have HC5 := Lib.hid ((HC3.out.fr HF4.out (by simp)).fr F5 (fun hm => by have := (HO4.out.lt hm).1; have := HS2.out; have := HS3.out; omega)); have HF5 := Lib.hid ((HF3.out.trans0 HF4.out).trans F5 (fun k hk hlt => by have := (HO4.out.lt hk).1; have := HF3.out.size; omega)); clear O5 F5 K5 d3)
        | (have z := HC3.out; clear z; refine wpList_build0 rfl 28 3 1 rfl ints_build0 ?_; intro w4 O4 F4 S4; have d3 : w4.cell? ⟨wr.heap.size, 3, none⟩ = some (.slice a1 t.cores.length c1) := (HC3.out.fr F4 (by simp)).cellAt rfl; have HO4 := Lib.hid O4; have HF4 := Lib.hid F4; have HS4 := Lib.hid S4; clear O4 F4 S4)
        | (have z := HC2.out; clear z; refine wpList_storeB rfl 124 _ _ rfl wr.heap.size 0 (t.cells a1 c1) (by rfl) (by rfl) 124 _ HC2.out (by show 0 + 8 ≤ 8; omega) (lease_size3 t a1 c1) (t.one3 a1 c1) ?_; intro w3 B3 F3 S3; rw [splice_all _ _ (by rfl)] at B3; have HC3 := Lib.hid B3; have HF3 := Lib.hid (HF2.out.trans F3 (fun k hk hlt => by rw [List.mem_singleton.1 hk] at hlt; omega)); have HS3 := Lib.hid S3; clear B3 F3 S3)
        | (refine wpList_load_mid rfl 124 _ rfl b (o + k * 8) rfl (t.cells a1 c1) _ HRG.out Try.underlying124 rfl (lease_size3 t a1 c1) ?_)
        | (refine wpList_allocZ rfl 124 rfl _ lease_zero ?_; intro w2 B2 F2 S2; have HC2 := Lib.hid B2; have HF2 := Lib.hid F2; have HS2 := Lib.hid S2; clear B2 F2 S2))
      have HR := Lib.hid (show TwinLR w l v8 (.int .i64 ((k + 1 : Nat) : Int)) w8 from ⟨k + 1, by omega, rfl, by rw [HSN.out]; exact HR8.out, HF8.out⟩)
      go_roundw
      case rel => exact HR.out
      case measure => simp [intOf] <;> omega
    · have hkl : k = l.length := by omega
      subst hkl
      rw [List.take_length] at hW
      have HR := Lib.hid (And.intro hW hF)
      clear hW hF
      go_wp2_with fail
      go_ret
      exact ⟨_, rfl, HR.out.1, HR.out.2⟩
theorem RowA.one {τ : Type} {EL : World → (Nat → Prop) → List Value → τ → Prop} {k : Nat} {w : World} {X : Nat → Prop} {a : Option Addr} {l : List τ} {css : List (List Value)} (h : RowA EL k w X a l css) (h1 : ∀ cs t, EL w X cs t → ∀ u ∈ cs, u.oneCell' = true) : ∀ u ∈ flat id css, u.oneCell' = true := fun u hu => by
  obtain ⟨cs, hcs, hm⟩ := List.mem_flatMap.1 hu
  obtain ⟨i, hi⟩ := List.getElem?_of_mem hcs
  have hlt := (List.getElem?_eq_some_iff.1 hi).1
  exact h1 _ _ (h.each i cs _ hi (List.getElem?_eq_getElem (by rw [← h.len]; exact hlt))).2 u hm
section
variable {P : Program}
/-- A whole row behind an empty one. -/
theorem wpList_appAll {τ : Type} {EL : World → (Nat → Prop) → List Value → τ → Prop} {EW : World → List Value → τ → Prop} {w : World} {ops : Array Oper} {rest : List Oper} {o : Oper} {a : Act} {Q : Exit → Act → World → Prop} (hgd : o.guard = none) (s y : Operand) (t tx : TypeId)
    (ho : o.op = .call { callee := .builtin .append, args := #[s, y], argTypes := #[t, tx] })
    (base : Nat) (e e' : TypeId) (zc : List Value) (k bytes : Nat) (ht : P.underlying t = some (.slice e)) (htx : P.underlying tx = some (.slice e')) (hi : (P.info? e).map (fun i => (i.zero.map (·.cells), i.size, i.bytes)) = some (some zc.toArray, k, bytes)) (hzc : zc.length = k) (hk0 : 0 < k)
    (v : Value) (hv : a.eval s = v) (h0 : Own w base e k v 0 []) (ad : Option Addr) (c : Nat) (l : List τ) (css : List (List Value)) (hrow : RowA EL k w X0 ad l css) (hx : a.eval y = .slice ad l.length c)
    (hone : ∀ cs t, EL w X0 cs t → ∀ u ∈ cs, u.oneCell' = true) (hE : ∀ w' cs t, EL w X0 cs t → EW w' cs t)
    (h63 : l.length ≤ maxLen) (hbytes : l.length * bytes ≤ 140737488355328) (hbase : base ≤ w.heap.size)
    (hK : ∀ v' w', RowW EW k e base w' v' l → Fr (ob v) w w' → (ob v' = ob v ∨ ob v' = [w.heap.size]) → wpList P ops Q rest (a.put o.dst v') w') : wpList P ops Q (o :: rest) a w := by
  cases hinf : P.info? e with
  | none => rw [hinf] at hi; cases hi
  | some i =>
    rw [hinf] at hi
    simp only [Option.map_some, Option.some.injEq, Prod.mk.injEq] at hi
    obtain ⟨hz, hsz, hby⟩ := hi
    cases hzz : i.zero with
    | none => rw [hzz] at hz; cases hz
    | some z =>
      rw [hzz] at hz
      simp only [Option.map_some, Option.some.injEq] at hz
      have hfl := flat_length id k css hrow.all
      refine wpList_app hgd s y t tx ho base e i z k bytes ht hinf hzz hsz hby (by rw [hz]; simpa using hzc) hk0 v 0 [] hv h0 _ l.length (flat id css) hx (hrow.rd.rd.src htx (by rw [hfl, hrow.len]) (hrow.one hone)) (by omega) (by simpa using hbytes) hbase ?_
      intro v' w' o' f' k' _
      refine hK v' w' ⟨css, by simpa using o', hrow.len, fun j cs t hc ht => ⟨(hrow.each j cs t hc ht).1, hE _ _ _ (hrow.each j cs t hc ht).2⟩⟩ f' k'
end
def QueW (w : World) (cs : List Value) (t : Que) : Prop := cs = t.cells
def NodW (w : World) (cs : List Value) (t : Nod) : Prop := cs = t.cells
def HuW (w : World) (cs : List Value) (t : Hun) : Prop := cs = t.cells
theorem que_build0 : ∀ W : World, (Instr.buildSlice 53 0 #[]).run Try.prog W = .ok (.slice (some ⟨W.heap.size, 0, none⟩) 0 0) (W.alloc (.cells #[] 25)) := fun W => by kernel_rfl
theorem nod_build0 : ∀ W : World, (Instr.buildSlice 54 0 #[]).run Try.prog W = .ok (.slice (some ⟨W.heap.size, 0, none⟩) 0 0) (W.alloc (.cells #[] 27)) := fun W => by kernel_rfl
theorem hun_build0 : ∀ W : World, (Instr.buildSlice 56 0 #[]).run Try.prog W = .ok (.slice (some ⟨W.heap.size, 0, none⟩) 0 0) (W.alloc (.cells #[] 119)) := fun W => by kernel_rfl
theorem info_queZ : (Try.prog.info? 25).map (fun i => (i.zero.map (·.cells), i.size, i.bytes)) = some (some que0.cells.toArray, 7, 56) := by kernel_rfl
theorem info_nodZ : (Try.prog.info? 27).map (fun i => (i.zero.map (·.cells), i.size, i.bytes)) = some (some nod0.cells.toArray, 5, 40) := by kernel_rfl
theorem info_hunZ : (Try.prog.info? 119).map (fun i => (i.zero.map (·.cells), i.size, i.bytes)) = some (some ([.int .i64 0, .int .i64 0] : List Value).toArray, 2, 16) := by kernel_rfl
def sta0 : Sta := ⟨0, 0, 0, [], [], [], [], []⟩
def staP0 : StaP := ⟨none, 0, none, 0, none, 0, none, 0, none, 0⟩
theorem state_zero : ∀ w, (zeroValue 58).run Try.prog w = .ok (.agg (sta0.cells staP0).toArray) w := fun w => by kernel_rfl
theorem Sta.one (x : Sta) (s : StaP) : ∀ v ∈ x.cells s, v.oneCell' = true := by
  simp [Value.oneCell', Sta.cells]
def StaE (x : Sta) (w : World) (e : Ending) (w' : World) : Prop := ∃ s, e = .returned (.agg (x.cells s).toArray) ∧ StaAt w' X0 x s ∧ Fr [] w w'
theorem sum_mem2 {τ : Type} (f : τ → Nat) : ∀ (l : List τ) (t : τ), t ∈ l → f t ≤ (l.map f).sum
  | [], _, h => by cases h
  | x :: l, t, h => by
    simp only [List.map_cons, List.sum_cons]
    rcases List.mem_cons.1 h with rfl | h
    · omega
    · have := sum_mem2 f l t h; omega
def TwinTR (w : World) (l : List Tas) (v i : Value) (wr : World) : Prop := ∃ k : Nat, k ≤ l.length ∧ i = .int .i64 k ∧ RowW (TasW w.heap.size) 7 30 w.heap.size wr v (l.take k) ∧ Fr [] w wr
set_option maxRecDepth 100000 in
set_option maxHeartbeats 4000000 in
theorem twinS_calls {w : World} (x : Sta) (s : StaP) (hr : StaAt w X0 x s) (hlen : x.bulk ≤ 1048576) : Calls Try.prog 26 #[.agg (x.cells s).toArray] w (StaE x w) := by
  have HR := Lib.hid hr
  have ht1 := len_1T x.tasks
  unfold Sta.bulk at hlen
  obtain ⟨cq, hq⟩ := hr.q
  obtain ⟨cn, hn⟩ := hr.n
  obtain ⟨ch, hh⟩ := hr.h
  have HQ := Lib.hid hq
  have HN := Lib.hid hn
  have HH := Lib.hid hh
  clear hr hq hn hh
  go_enter Try.func26, Try.ntmps26
  go_wp2_with (first
    | (have z := HR7.out; clear z; refine wpList_store1 rfl 54 _ _ rfl w.heap.size 4 (.slice a7 x.nodes.length k7) (by rfl) (by rfl) rfl 58 _ HB7.out (by simp [Sta.cells]) (by kernel_rfl) rfl ?_; intro w8 B8 F8 S8; have hb8 : Blk w8 w.heap.size 58 (x.cells { s with a1 := a4, c1 := k4, a2 := a7, c2 := k7 }) := B8; have c5 : w8.cell? ⟨w.heap.size, 5, none⟩ = some (.slice s.a3 x.tasks.length s.c3) := hb8.cellAt rfl; have HB8 := Lib.hid hb8; have HC8 := Lib.hid (HC7.out.fr F8 (by have := HS1.out; simp; omega)); have HQ8 := Lib.hid (HQ7.out.fr F8 (fun g hg hm => by have := (HQ7.out.lt hg).1; rw [List.mem_singleton.1 hm] at this; have := HS1.out; have := HS2.out; omega) (fun _ _ h => h)); have HN8 := Lib.hid (HR7.out.fr F8 (fun g hg hm => by have := (HR7.out.lt hg).1; rw [List.mem_singleton.1 hm] at this; have := HS1.out; have := HS2.out; omega) (fun _ _ h => h)); have HZ8 := Lib.hid (show w7.heap.size ≤ w8.heap.size ∧ w6.heap.size ≤ w7.heap.size from ⟨F8.size, HZ7.out⟩); have HF8 := Lib.hid (HF7.out.trans F8 (fun k hk hlt => by rw [List.mem_singleton.1 hk] at hlt; omega)); clear B8 F8 S8 hb8)
    | (have z := HO6.out; clear z; refine wpList_appAll (EW := NodW) rfl _ _ 54 54 rfl w2.heap.size 27 27 nod0.cells 5 40 Try.underlying54 Try.underlying54 info_nodZ rfl (by decide) _ (by rfl) (HO6.out.base (by have := HF5.out.size; have := HZ5.out; omega)) s.a2 s.c2 x.nodes cn (HN.out.fr0 HF6.out (fun _ _ _ _ _ h => h)) (by rfl) (fun cs t h => by rw [show cs = t.cells from h]; simp [Value.oneCell', Nod.cells]) (fun _ _ _ h => h) (by simp only [maxLen]; omega) (by omega) (by have := HF6.out.size; have := HZ5.out; have := HS6.out; omega) ?_; intro v7 w7 R7 F7 K7; obtain ⟨a7, k7, hv7, _, _⟩ := R7.form; subst hv7; have HR7 := Lib.hid R7; have HB7 := Lib.hid ((HB5.out.fr HF56.out (by simp)).fr F7 (fun hm => by have := (HO6.out.lt hm).1; have := HB5.out.lt; omega)); have HC7 := Lib.hid ((HC5.out.fr HF56.out (by simp)).fr F7 (fun hm => by have := (HO6.out.lt hm).1; have := HC5.out.lt; omega)); have HQ7 := Lib.hid ((HQ5.out.fr HF56.out (by simp) (fun _ _ h => h)).fr F7 (fun g hg hm => by have := (HO6.out.lt hm).1; have := (HQ5.out.lt hg).2; omega) (fun _ _ h => h)); have HZ7 := Lib.hid F7.size; have HF7 := Lib.hid (HF6.out.trans F7 (fun k hk hlt => by have := (HO6.out.lt hk).1; have := HF5.out.size; omega)); clear R7 F7 K7 c4)
    | (have z := HR4.out; clear z; refine wpList_store1 rfl 53 _ _ rfl w.heap.size 3 (.slice a4 x.queues.length k4) (by rfl) (by rfl) rfl 58 _ HB4.out (by simp [Sta.cells]) (by kernel_rfl) rfl ?_; intro w5 B5 F5 S5; have hb5 : Blk w5 w.heap.size 58 (x.cells { s with a1 := a4, c1 := k4 }) := B5; have HB5 := Lib.hid hb5; have HC5 := Lib.hid (HC4.out.fr F5 (by have := HS1.out; simp; omega)); have HQ5 := Lib.hid (HR4.out.fr F5 (fun g hg hm => by have := (HR4.out.lt hg).1; rw [List.mem_singleton.1 hm] at this; have := HS1.out; have := HS2.out; omega) (fun _ _ h => h)); have HF5 := Lib.hid (HF4.out.trans F5 (fun k hk hlt => by rw [List.mem_singleton.1 hk] at hlt; omega)); have HZ5 := Lib.hid (show w2.heap.size ≤ w5.heap.size by have := F5.size; have := HZ4.out; omega); clear B5 F5 S5 hb5)
    | (have z := HO3.out; clear z; refine wpList_appAll (EW := QueW) rfl _ _ 53 53 rfl w2.heap.size 25 25 que0.cells 7 56 Try.underlying53 Try.underlying53 info_queZ rfl (by decide) _ (by rfl) HO3.out s.a1 s.c1 x.queues cq (HQ.out.fr0 HF3.out (fun _ _ _ _ _ h => h)) (by rfl) (fun cs t h => by rw [show cs = t.cells from h]; simp [Value.oneCell', Que.cells]) (fun _ _ _ h => h) (by simp only [maxLen]; omega) (by omega) (by have := HS3.out; omega) ?_; intro v4 w4 R4 F4 K4; obtain ⟨a4, k4, hv4, _, _⟩ := R4.form; subst hv4; have HR4 := Lib.hid R4; have HB4 := Lib.hid ((HB1.out.fr HF23.out (by simp)).fr F4 (fun hm => by have := (HO3.out.lt hm).1; have := HS1.out; have := HS2.out; omega)); have HC4 := Lib.hid ((HC2.out.fr HF2z.out (by simp)).fr F4 (fun hm => by have := (HO3.out.lt hm).1; have := HS1.out; have := HS2.out; omega)); have HF4 := Lib.hid (HF3.out.trans F4 (fun k hk hlt => by have := (HO3.out.lt hk).1; have := HS1.out; have := HS2.out; omega)); have HZ4 := Lib.hid (show w2.heap.size ≤ w4.heap.size by have := F4.size; have := HS3.out; omega); clear R4 F4 K4 c3)
    | (have z := HB5.out; clear z; refine wpList_build0 rfl 54 27 5 rfl nod_build0 ?_; intro w6 O6 F6 S6; have c4 : w6.cell? ⟨w.heap.size, 4, none⟩ = some (.slice s.a2 x.nodes.length s.c2) := (HB5.out.fr F6 (by simp)).cellAt rfl; have HO6 := Lib.hid O6; have HF6 := Lib.hid (HF5.out.trans0 F6); have HF56 := Lib.hid F6; have HS6 := Lib.hid S6; clear O6 F6 S6)
    | (have z := HC2.out; clear z; refine wpList_build0 rfl 53 25 7 rfl que_build0 ?_; intro w3 O3 F3 S3; have c3 : w3.cell? ⟨w.heap.size, 3, none⟩ = some (.slice s.a1 x.queues.length s.c1) := ((HB1.out.fr HF2.out (by simp)).fr F3 (by simp)).cellAt rfl; have HO3 := Lib.hid O3; have HF23 := Lib.hid (HF2.out.trans0 F3); have HF2z := Lib.hid F3; have HF3 := Lib.hid ((HF1.out.trans0 HF2.out).trans0 F3); have HS3 := Lib.hid S3; clear O3 F3 S3)
    | (refine wpList_boxB rfl 58 _ rfl (x.cells s) (by rfl) ?_; intro w1 B1 F1 S1; have HB1 := Lib.hid B1; have HF1 := Lib.hid F1; have HS1 := Lib.hid S1; clear B1 F1 S1)
    | (refine wpList_allocZ rfl 58 rfl _ state_zero ?_; intro w2 B2 F2 S2; have HC2 := Lib.hid B2; have HF2 := Lib.hid F2; have HS2 := Lib.hid S2; clear B2 F2 S2))
  have HT8 := Lib.hid ((HR.out.fr0 HF8.out).t)
  have hz8 : w2.heap.size ≤ w8.heap.size := by have := HZ5.out; have := HF56.out.size; have := HZ8.out; omega
  clear HB1 HC2 HO3 HR4 HB4 HC4 HB5 HC5 HQ5 HO6 HR7 HB7 HC7 HQ7 HF7 HF6 HF56 HS6 HF5 HZ5 HF4 HZ4 HF23 HF2z HF3 HS3
  go_loopw [3, 19] (fun v i wr => TwinTR w8 x.tasks v i wr) (fun _ i _ => x.tasks.length - (intOf i).toNat)
  case atStart => exact ⟨0, Nat.zero_le _, rfl, RowW.nil _, Fr.refl _ _⟩
  case round =>
    obtain ⟨k, hk, rfl, hW, hF⟩ := hrel
    rcases Nat.lt_or_ge k x.tasks.length with hlt | hge
    · obtain ⟨t, ht⟩ : ∃ t, x.tasks[k]? = some t := ⟨x.tasks[k], List.getElem?_eq_getElem hlt⟩
      have kb : (k : Int) < (x.tasks.length : Int) := by omega
      obtain ⟨css, hrow⟩ := HT8.out
      obtain ⟨b, o, cs, ha0, hb, hx, hcl, ⟨a1, c1, rfl, ra⟩, hrg⟩ := (hrow.fr0 hF (fun _ _ _ _ f h => TasAt.fr0 f h)).get (by decide) ht
      have hsn : x.tasks.take (k + 1) = x.tasks.take k ++ [t] := by rw [List.take_add_one, ht]; rfl
      have hlk : (x.tasks.take k).length = k := by rw [List.length_take]; omega
      have hsm := sum_mem2 (fun t : Tas => t.tickets.length + 1) x.tasks t (List.mem_of_getElem? ht)
      have HRG := Lib.hid hrg
      have HRA := Lib.hid ra
      have HHH := Lib.hid (And.intro hW hF)
      have HSN := Lib.hid hsn
      have hz := hF.size
      clear hW hF hrg ra hcl ht hsn hrow
      rw [ha0]
      clear ha0
      go_wp2_with (first
        | (have z := HG2.out; clear z; refine wpList_loadB rfl 30 _ rfl wr.heap.size (by rfl) 30 _ _ HG2.out Try.underlying30 rfl (task_size3 t a1 c1) ?_)
        | (refine wpList_storeB rfl 30 _ _ rfl wr.heap.size 0 (t.cells a1 c1) (by rfl) (by rfl) 30 _ HG1.out (by show 0 + 7 ≤ 7; omega) (task_size3 t a1 c1) (t.one3 a1 c1) ?_; intro w3 B3 F3 S3; rw [splice_all _ _ (by rfl)] at B3; have HG2 := Lib.hid B3; have HG3 := Lib.hid (HG0.out.trans F3 (fun k hk hlt => by rw [List.mem_singleton.1 hk] at hlt; omega)); clear B3 F3 S3)
        | (refine wpList_load_mid rfl 30 _ rfl b (o + k * 7) rfl (t.cells a1 c1) _ HRG.out Try.underlying30 rfl (task_size3 t a1 c1) ?_)
        | (refine wpList_allocZ rfl 30 rfl _ task_zero4 ?_; intro w2 B2 F2 S2; have HG1 := Lib.hid B2; have HG0 := Lib.hid F2; clear B2 F2 S2))
      refine (twinT_calls (w := w3) t a1 c1 (HRA.out.rd.fr0 HG3.out) (by omega)).mono ?_
      rintro e w4 ⟨v4, rfl, ⟨a5, c5, rfl, O5⟩, F5⟩
      have HO5 := Lib.hid O5
      have HG4 := Lib.hid (HG3.out.trans0 F5)
      have hz4 := HG3.out.size
      clear O5 F5
      go_wp2_with (first
        | (have z := HR7.out; clear z; refine wpList_appW rfl _ _ 55 55 rfl w8.heap.size 30 30 (tas0.cells none 0) 7 72 Try.underlying55 Try.underlying55 info_taskZ rfl (by decide) _ (x.tasks.take k) (by rfl) HR7.out _ 1 (by rfl) 30 (t.cells a5 c5) HB7.out rfl (t.one3 a5 c5) t HW7.out (by rw [hlk]; simp only [maxLen]; omega) (by rw [hlk]; omega) (by have := HF7.out.size; omega) (fun w' cs t f h => TasW.frT (fun g hg => HR7.out.blkOf hg) f (by decide) h) ?_; intro v9 w9 R9 F9 K9; have HR9 := Lib.hid R9; have HF9 := Lib.hid ((HHH.out.2.trans0 HF7.out).trans F9 (fun x hx hlt => by have := (HR7.out.lt hx).1; omega)); clear R9 F9 K9)
        | (refine wpList_buildSlice1 rfl 55 30 _ rfl (tas0.cells none 0) 7 72 Try.underlying55 info_taskZ (by rfl) (by omega) (by omega) _ (t.cells a5 c5) (by rfl) (by rfl) (by rfl) ?_; intro w7 B7 F7 S7; have HB7 := Lib.hid B7; have HF7 := Lib.hid (HG4.out.trans0 F7); have HW7 := Lib.hid (show TasW w8.heap.size w7 (t.cells a5 c5) t from ⟨a5, c5, rfl, (HO5.out.fr0 F7).base (by omega)⟩); have HR7 := Lib.hid (HHH.out.1.fr (HG4.out.trans0 F7) (by simp) (fun cs t h => TasW.frT (e := 30) (by simp) (HG4.out.trans0 F7) (by decide) h)); clear B7 F7 S7))
      have HRR := Lib.hid (show TwinTR w8 x.tasks v9 (.int .i64 ((k + 1 : Nat) : Int)) w9 from ⟨k + 1, by omega, rfl, by rw [HSN.out]; exact HR9.out, HF9.out⟩)
      go_roundw
      case rel => exact HRR.out
      case measure => simp [intOf] <;> omega
    have hkl : k = x.tasks.length := by omega
    subst hkl
    rw [List.take_length] at hW
    generalize wr = w9 at *
    obtain ⟨a9, k9, hv9, _, _⟩ := hW.form
    subst hv9
    have HB9 := Lib.hid (HB8.out.fr hF (by simp))
    have HC9 := Lib.hid (HC8.out.fr hF (by simp))
    have HQ9 := Lib.hid (HQ8.out.fr hF (by simp) (fun _ _ h => h))
    have HN9 := Lib.hid (HN8.out.fr hF (by simp) (fun _ _ h => h))
    have HT9 := Lib.hid hW
    have HF9 := Lib.hid (HF8.out.trans0 hF)
    have hz9 := hF.size
    have hs1 := len_1 x.leases
    clear hW hF hge hk HB8 HC8 HQ8 HN8 HT8
    go_wp2_with (refine wpList_store1 rfl 55 _ _ rfl w.heap.size 5 (.slice a9 x.tasks.length k9) (by rfl) (by rfl) rfl 58 _ HB9.out (by simp [Sta.cells]) (by kernel_rfl) rfl ?_; intro w10 B10 F10 S10; have hb10 : Blk w10 w.heap.size 58 (x.cells { s with a1 := a4, c1 := k4, a2 := a7, c2 := k7, a3 := a9, c3 := k9 }) := B10; have c6 : w10.cell? ⟨w.heap.size, 6, none⟩ = some (.slice s.a4 x.leases.length s.c4) := hb10.cellAt rfl; have HB10 := Lib.hid hb10; have HC10 := Lib.hid (HC9.out.fr F10 (by have := HS1.out; simp; omega)); have HQ10 := Lib.hid (HQ9.out.fr F10 (fun g hg hm => by have := (HQ9.out.lt hg).1; rw [List.mem_singleton.1 hm] at this; have := HS1.out; have := HS2.out; omega) (fun _ _ h => h)); have HN10 := Lib.hid (HN9.out.fr F10 (fun g hg hm => by have := (HN9.out.lt hg).1; rw [List.mem_singleton.1 hm] at this; have := HS1.out; have := HS2.out; omega) (fun _ _ h => h)); have HT10 := Lib.hid (HT9.out.fr F10 (fun g hg hm => by have := (HT9.out.lt hg).1; rw [List.mem_singleton.1 hm] at this; have := HS1.out; have := HS2.out; omega) (fun cs t h => TasW.frT (e := 58) (fun g hg => by rw [List.mem_singleton.1 hg]; exact ⟨_, HB9.out⟩) F10 (by decide) h)); have HF10 := Lib.hid (HF9.out.trans F10 (fun k hk hlt => by rw [List.mem_singleton.1 hk] at hlt; omega)); have hz10 := F10.size; clear B10 F10 S10 hb10)
    obtain ⟨cl, hl⟩ := (HR.out.fr0 HF10.out).l
    refine (twinL_calls (w := w10) s.a4 s.c4 x.leases cl hl (by omega)).mono ?_
    rintro e w11 ⟨v11, rfl, R11, F11⟩
    obtain ⟨a11, k11, hv11, _, _⟩ := R11.form
    subst hv11
    have HL11 := Lib.hid R11
    have HG11 := Lib.hid (Fr.ext (S := [w.heap.size, w1.heap.size]) F11)
    have HB11 := Lib.hid (HB10.out.fr F11 (by simp))
    have HC11 := Lib.hid (HC10.out.fr F11 (by simp))
    have HF11 := Lib.hid (HF10.out.trans0 F11)
    have hz11 := F11.size
    clear R11 F11 c6 hl HB9 HC9 HQ9 HN9 HT9
    have hne : w.heap.size ≠ w1.heap.size := by have := HS1.out; omega
    go_wp2_with (first
      | (have z := HB15.out; clear z; refine wpList_loadB rfl 58 _ rfl w.heap.size (by rfl) 58 _ _ HB15.out Try.underlying58 rfl (state_size x _) ?_)
      | (have z := HB15.out; clear z; refine wpList_storeB rfl 58 _ _ rfl w1.heap.size 0 (x.cells { s with a1 := a4, c1 := k4, a2 := a7, c2 := k7, a3 := a9, c3 := k9, a4 := a11, c4 := k11, a5 := a14, c5 := k14 }) (by rfl) (by rfl) 58 _ HC15.out (by show 0 + 8 ≤ 8; omega) (state_size x _) (x.one _) ?_; intro w16 B16 F16 S16; rw [splice_all _ _ (by rfl)] at B16; have HB16 := Lib.hid B16; have HG16 := Lib.hid (HG15.out.trans F16 (fun k hk _ => by simp at hk ⊢; exact .inr hk)); have HGL16 := Lib.hid (HGL15.out.trans F16 (fun k hk _ => by simp at hk ⊢; exact .inr hk)); have HGH16 := Lib.hid (HGH15.out.trans F16 (fun k hk _ => by simp at hk ⊢; exact .inr hk)); have HF16 := Lib.hid (HF15.out.trans F16 (fun k hk hlt => by rw [List.mem_singleton.1 hk] at hlt; have := HS1.out; omega)); clear B16 F16 S16)
      | (have z := HH14.out; clear z; refine wpList_store1 rfl 56 _ _ rfl w.heap.size 7 (.slice a14 x.hungry.length k14) (by rfl) (by rfl) rfl 58 _ HB14.out (by simp [Sta.cells]) (by kernel_rfl) rfl ?_; intro w15 B15 F15 S15; have hb15 : Blk w15 w.heap.size 58 (x.cells { s with a1 := a4, c1 := k4, a2 := a7, c2 := k7, a3 := a9, c3 := k9, a4 := a11, c4 := k11, a5 := a14, c5 := k14 }) := B15; have HB15 := Lib.hid hb15; have HC15 := Lib.hid (HC14.out.fr F15 (by simp; omega)); have HG15 := Lib.hid (HG14.out.trans F15 (fun k hk _ => by simp at hk ⊢; exact .inl hk)); have HGL15 := Lib.hid (HGL14.out.trans F15 (fun k hk _ => by simp at hk ⊢; exact .inl hk)); have HGH15 := Lib.hid (F15.mono (S' := [w.heap.size, w1.heap.size]) (fun k hk _ => by simp at hk ⊢; exact .inl hk)); have HF15 := Lib.hid (HF14.out.trans F15 (fun k hk hlt => by rw [List.mem_singleton.1 hk] at hlt; omega)); clear B15 F15 S15 hb15)
      | (have z := HO13.out; clear z; refine wpList_appAll (EW := HuW) rfl _ _ 56 56 rfl w12.heap.size 119 119 [.int .i64 0, .int .i64 0] 2 16 Try.underlying56 Try.underlying56 info_hunZ rfl (by decide) _ (by rfl) HO13.out s.a5 s.c5 x.hungry ch (HH.out.fr0 HF13.out (fun _ _ _ _ _ h => h)) (by rfl) (fun cs t h => by rw [show cs = t.cells from h]; simp [Value.oneCell', Hun.cells]) (fun _ _ _ h => h) (by simp only [maxLen]; omega) (by omega) (by have := HS13.out; omega) ?_; intro v14 w14 R14 F14 K14; obtain ⟨a14, k14, hv14, _, _⟩ := R14.form; subst hv14; have HH14 := Lib.hid R14; have HB14 := Lib.hid (HB13.out.fr F14 (fun hm => by have := (HO13.out.lt hm).1; have := HB12.out.lt; omega)); have HC14 := Lib.hid (HC13.out.fr F14 (fun hm => by have := (HO13.out.lt hm).1; have := HC12.out.lt; omega)); have HG14 := Lib.hid (HG13.out.trans F14 (fun k hk hlt => by have := (HO13.out.lt hk).1; have := HZ12.out; omega)); have HGL14 := Lib.hid (HGL13.out.trans F14 (fun k hk hlt => by have := (HO13.out.lt hk).1; have := HZ12.out; omega)); have HF14 := Lib.hid (HF13.out.trans F14 (fun k hk hlt => by have := (HO13.out.lt hk).1; have := HF12.out.size; omega)); clear R14 F14 K14 c7)
      | (have z := HB12.out; clear z; refine wpList_build0 rfl 56 119 2 rfl hun_build0 ?_; intro w13 O13 F13 S13; have hb13 := HB12.out.fr F13 (by simp); have c7 : w13.cell? ⟨w.heap.size, 7, none⟩ = some (.slice s.a5 x.hungry.length s.c5) := hb13.cellAt rfl; have HO13 := Lib.hid O13; have HB13 := Lib.hid hb13; have HC13 := Lib.hid (HC12.out.fr F13 (by simp)); have HG13 := Lib.hid (HG12.out.trans0 F13); have HGL13 := Lib.hid (HGL12.out.trans0 F13); have HF13 := Lib.hid (HF12.out.trans0 F13); have HS13 := Lib.hid S13; clear O13 F13 S13 hb13)
      | (refine wpList_store1 rfl 47 _ _ rfl w.heap.size 6 (.slice a11 x.leases.length k11) (by rfl) (by rfl) rfl 58 _ HB11.out (by simp [Sta.cells]) (by kernel_rfl) rfl ?_; intro w12 B12 F12 S12; have hb12 : Blk w12 w.heap.size 58 (x.cells { s with a1 := a4, c1 := k4, a2 := a7, c2 := k7, a3 := a9, c3 := k9, a4 := a11, c4 := k11 }) := B12; have HB12 := Lib.hid hb12; have HC12 := Lib.hid (HC11.out.fr F12 (by simp; omega)); have HG12 := Lib.hid (HG11.out.trans F12 (fun k hk _ => by simp at hk ⊢; exact .inl hk)); have HGL12 := Lib.hid (F12.mono (S' := [w.heap.size, w1.heap.size]) (fun k hk _ => by simp at hk ⊢; exact .inl hk)); have HF12 := Lib.hid (HF11.out.trans F12 (fun k hk hlt => by rw [List.mem_singleton.1 hk] at hlt; omega)); have HZ12 := Lib.hid (show w11.heap.size ≤ w12.heap.size from F12.size); clear B12 F12 S12 hb12))
    have hno : ∀ (b0 : Nat) (g : Nat), w1.heap.size < b0 → b0 ≤ g → g ∉ [w.heap.size, w1.heap.size] := fun b0 g h1 h2 hm => by
      have := HS1.out
      simp at hm
      omega
    have hb2 : w1.heap.size < w2.heap.size := by have := HS2.out; omega
    have RQ := HQ10.out.fr HG16.out (fun g hg => hno _ g hb2 (HQ10.out.lt hg).1) (fun _ _ h => h)
    have RN := HN10.out.fr HG16.out (fun g hg => hno _ g hb2 (HN10.out.lt hg).1) (fun _ _ h => h)
    have RT := HT10.out.fr HG16.out (fun g hg => hno _ g (by omega) (HT10.out.lt hg).1) (fun cs t h => TasW.frT (e := 58) (fun g hg => by
      simp at hg
      rcases hg with rfl | rfl
      · exact ⟨_, HB10.out⟩
      · exact ⟨_, HC10.out⟩) HG16.out (by decide) h)
    have RL := HL11.out.fr HGL16.out (fun g hg => hno _ g (by omega) (HL11.out.lt hg).1) (fun cs t h => LeaW.frT (e := 58) (fun g hg => by
      simp at hg
      rcases hg with rfl | rfl
      · exact ⟨_, HB11.out⟩
      · exact ⟨_, HC11.out⟩) HGL16.out (by decide) h)
    have RH := HH14.out.fr HGH16.out (fun g hg => hno _ g (by have := HZ12.out; omega) (HH14.out.lt hg).1) (fun _ _ h => h)
    refine bodyPost_ret (results_cellB rfl _ _ w1.heap.size 58 _ _ (by rfl) HB16.out Try.underlying58 rfl (state_size x _)) rfl ⟨_, rfl, ⟨?_, ?_, ?_, ?_, ?_⟩, HF16.out⟩
    · exact RQ.rowA (fun _ _ h => h)
    · exact RN.rowA (fun _ _ h => h)
    · exact RT.rowA (fun _ _ h => TasW.at h)
    · exact RL.rowA (fun _ _ h => LeaW.at h)
    · exact RH.rowA (fun _ _ h => h)
end Go.Fur
