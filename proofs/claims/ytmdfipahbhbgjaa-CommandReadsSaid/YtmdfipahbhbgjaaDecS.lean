/- The reader's answer and state: contracts. -/
import Derived.Test.YtmdfipahbhbgjaaTwinS
import Derived.Test.YtmdfipahbhbgjaaAllS2
namespace Go.Fur
open Go Go.RowKit Go.Proofs Go.Proofs.YtmdfipahbhbgjaaW.PrintWords
set_option linter.unusedVariables false
set_option linter.unusedSimpArgs false
theorem TasW.lt {base : Nat} {w w' : World} {S : List Nat} (hS : ∀ g ∈ S, g < base) (f : Fr S w w') {cs : List Value} {t : Tas} (h : TasW base w cs t) : TasW base w' cs t := by
  obtain ⟨a, c, h1, h2⟩ := h
  exact ⟨a, c, h1, h2.fr f (fun g hg hm => by have := (h2.lt hg).1; have := hS g hm; omega)⟩
theorem LeaW.lt {base : Nat} {w w' : World} {S : List Nat} (hS : ∀ g ∈ S, g < base) (f : Fr S w w') {cs : List Value} {t : Lea} (h : LeaW base w cs t) : LeaW base w' cs t := by
  obtain ⟨a, c, h1, h2⟩ := h
  exact ⟨a, c, h1, h2.fr f (fun g hg hm => by have := (h2.lt hg).1; have := hS g hm; omega)⟩
theorem TasW.base {b b' : Nat} {w : World} (hb : b' ≤ b) {cs : List Value} {t : Tas} (h : TasW b w cs t) : TasW b' w cs t := by
  obtain ⟨a, c, h1, h2⟩ := h
  exact ⟨a, c, h1, h2.base hb⟩
theorem LeaW.base {b b' : Nat} {w : World} (hb : b' ≤ b) {cs : List Value} {t : Lea} (h : LeaW b w cs t) : LeaW b' w cs t := by
  obtain ⟨a, c, h1, h2⟩ := h
  exact ⟨a, c, h1, h2.base hb⟩
theorem RowW.ltB {τ : Type} {EW : World → List Value → τ → Prop} {k : Nat} {e : TypeId} {base : Nat} {w w' : World} {v : Value} {l : List τ} {S : List Nat} (h : RowW EW k e base w v l) (hS : ∀ g ∈ S, g < base) (f : Fr S w w') (hE : ∀ cs t, EW w cs t → EW w' cs t) : RowW EW k e base w' v l :=
  h.fr f (fun g hg hm => by have := (h.lt hg).1; have := hS g hm; omega) hE
theorem RowW.mapL {τ σ : Type} {EW : World → List Value → τ → Prop} {EW' : World → List Value → σ → Prop} {k : Nat} {e : TypeId} {base : Nat} {w : World} {v : Value} {l : List τ} (f : τ → σ) (h : RowW EW k e base w v l) (hE : ∀ cs t, EW w cs t → EW' w cs (f t)) : RowW EW' k e base w v (l.map f) := by
  obtain ⟨css, h1, h2, h3⟩ := h
  refine ⟨css, by simpa using h1, by simpa using h2, fun i cs t hc ht => ?_⟩
  rw [List.getElem?_map] at ht
  cases hx : l[i]? with
  | none => rw [hx] at ht; cases ht
  | some y =>
    rw [hx] at ht
    cases ht
    exact ⟨(h3 i cs y hc hx).1, hE _ _ (h3 i cs y hc hx).2⟩
/-- An answer, a state of one's own. -/
def AnsO (base : Nat) (x : Ans) (v : Value) (w : World) : Prop := ∃ a c b d, v = .agg (x.cells a c b d).toArray ∧ Own w base 3 1 (.slice a x.cores.length c) x.cores.length (iv x.cores) ∧ RowW (LeaW base) 8 124 base w (.slice b x.leases.length d) x.leases
def StaO (base : Nat) (x : Sta) (v : Value) (w : World) : Prop := ∃ s : StaP, v = .agg (x.cells s).toArray ∧ RowW QueW 7 25 base w (.slice s.a1 x.queues.length s.c1) x.queues ∧ RowW NodW 5 27 base w (.slice s.a2 x.nodes.length s.c2) x.nodes ∧ RowW (TasW base) 7 30 base w (.slice s.a3 x.tasks.length s.c3) x.tasks ∧ RowW (LeaW base) 8 124 base w (.slice s.a4 x.leases.length s.c4) x.leases ∧ RowW HuW 2 119 base w (.slice s.a5 x.hungry.length s.c5) x.hungry
theorem AnsO.ltB {base : Nat} {x : Ans} {v : Value} {w w' : World} {S : List Nat} (h : AnsO base x v w) (hS : ∀ g ∈ S, g < base) (f : Fr S w w') : AnsO base x v w' := by
  obtain ⟨a, c, b, d, h1, h2, h3⟩ := h
  exact ⟨a, c, b, d, h1, h2.fr f (fun g hg hm => by have := (h2.lt hg).1; have := hS g hm; omega), h3.ltB hS f (fun cs t h => LeaW.lt hS f h)⟩
theorem AnsO.base {b b' : Nat} {x : Ans} {v : Value} {w : World} (hb : b' ≤ b) (h : AnsO b x v w) : AnsO b' x v w := by
  obtain ⟨a, c, q, d, h1, h2, h3⟩ := h
  exact ⟨a, c, q, d, h1, h2.base hb, (h3.base hb).map (fun cs t h => LeaW.base hb h)⟩
theorem StaO.ltB {base : Nat} {x : Sta} {v : Value} {w w' : World} {S : List Nat} (h : StaO base x v w) (hS : ∀ g ∈ S, g < base) (f : Fr S w w') : StaO base x v w' := by
  obtain ⟨s, h1, h2, h3, h4, h5, h6⟩ := h
  exact ⟨s, h1, h2.ltB hS f (fun _ _ h => h), h3.ltB hS f (fun _ _ h => h), h4.ltB hS f (fun _ _ h => TasW.lt hS f h), h5.ltB hS f (fun _ _ h => LeaW.lt hS f h), h6.ltB hS f (fun _ _ h => h)⟩
theorem StaO.base {b b' : Nat} {x : Sta} {v : Value} {w : World} (hb : b' ≤ b) (h : StaO b x v w) : StaO b' x v w := by
  obtain ⟨s, h1, h2, h3, h4, h5, h6⟩ := h
  exact ⟨s, h1, h2.base hb, h3.base hb, (h4.base hb).map (fun _ _ h => TasW.base hb h), (h5.base hb).map (fun _ _ h => LeaW.base hb h), h6.base hb⟩
theorem StaO.at {base : Nat} {x : Sta} {v : Value} {w : World} (h : StaO base x v w) : ∃ s, v = .agg (x.cells s).toArray ∧ StaAt w X0 x s := by
  obtain ⟨s, h1, h2, h3, h4, h5, h6⟩ := h
  exact ⟨s, h1, h2.rowA (fun _ _ h => h), h3.rowA (fun _ _ h => h), h4.rowA (fun _ _ h => TasW.at h), h5.rowA (fun _ _ h => LeaW.at h), h6.rowA (fun _ _ h => h)⟩
/-- What is read. -/
def rA (l : List Int) (s : Int × Int) : Ans × Int × Int := let r1 := rI l s; let r2 := rI l r1.2; let r3 := rI l r2.2; let r4 := allR l (rI l) r3.2; let r5 := allR l (rL l) r4.2; (⟨r1.1, r2.1, r3.1, r4.1, r5.1⟩, r5.2)
def hunP (x : Int × Int) : Hun := ⟨x.1, x.2⟩
def rS (l : List Int) (s : Int × Int) : Sta × Int × Int := let r1 := rI l s; let r2 := rI l r1.2; let r3 := rI l r2.2; let r4 := allR l (rQ l) r3.2; let r5 := allR l (rN l) r4.2; let r6 := allR l (rT l) r5.2; let r7 := allR l (rL l) r6.2; let r8 := allR l (rH l) r7.2; (⟨r1.1, r2.1, r3.1, r4.1, r5.1, r6.1, r7.1, r8.1.map hunP⟩, r8.2)
/-- They stay where blocks are turned that hold no whole numbers. -/
theorem LeaW.stays {base p : Nat} {e1 e2 : TypeId} (hp : p < base) (h1 : (3 : TypeId) ≠ e1) (h2 : (3 : TypeId) ≠ e2) : Stays (LeaW base) p e1 e2 := by
  rintro W W' T cs x f hT ⟨a, c, hcs, ho⟩
  refine ⟨a, c, hcs, ho.fr f (fun g hg hm => ?_)⟩
  obtain ⟨cur, hb⟩ := ho.blkOf hg
  have hlt := (ho.lt hg).1
  rcases hT g hm with h | ⟨o, k1, k2⟩ | ⟨t, cu, hb2, ht⟩
  · omega
  · unfold Blk at hb
    rw [k1] at hb
    cases hb
    cases k2
  · rcases ht with rfl | rfl
    · exact hb.ne hb2 h1 rfl
    · exact hb.ne hb2 h2 rfl
theorem TasW.stays {base p : Nat} {e1 e2 : TypeId} (hp : p < base) (h1 : (3 : TypeId) ≠ e1) (h2 : (3 : TypeId) ≠ e2) : Stays (TasW base) p e1 e2 := by
  rintro W W' T cs x f hT ⟨a, c, hcs, ho⟩
  refine ⟨a, c, hcs, ho.fr f (fun g hg hm => ?_)⟩
  obtain ⟨cur, hb⟩ := ho.blkOf hg
  have hlt := (ho.lt hg).1
  rcases hT g hm with h | ⟨o, k1, k2⟩ | ⟨t, cu, hb2, ht⟩
  · omega
  · unfold Blk at hb
    rw [k1] at hb
    cases hb
    cases k2
  · rcases ht with rfl | rfl
    · exact hb.ne hb2 h1 rfl
    · exact hb.ne hb2 h2 rfl
def PairW (w : World) (cs : List Value) (t : Int × Int) : Prop := cs = [.int .i64 t.1, .int .i64 t.2]
theorem readL {w : World} {p : Nat} {a : Option Addr} {n c : Nat} {l : List Int} {s : Int × Int} (h : Rr w p a n c l s) :
    Calls Try.prog 83 #[.pointer (some ⟨p, 0, none⟩), mv 84 p] w fun e w' => ∃ v, e = .returned v ∧ RowW (LeaW w.heap.size) 8 124 w.heap.size w' v (allR l (rL l) s).1 ∧ Rr w' p a n c l (allR l (rL l) s).2 ∧ Fr [p] w w' :=
  allL_calls (rL l) (LeaW.stays h.hp.lt (by decide) (by decide)) (fun W s hb hr => (rlease_calls hb hr).mono (by
    rintro e w' ⟨v, rfl, ⟨a, c, rfl, ho⟩, h1, h2⟩
    exact ⟨_, rfl, ⟨_, rfl, rfl, Lea.one3 _ _ _, ⟨a, c, rfl, ho⟩⟩, h1, h2⟩)) h
theorem readT {w : World} {p : Nat} {a : Option Addr} {n c : Nat} {l : List Int} {s : Int × Int} (h : Rr w p a n c l s) :
    Calls Try.prog 91 #[.pointer (some ⟨p, 0, none⟩), mv 92 p] w fun e w' => ∃ v, e = .returned v ∧ RowW (TasW w.heap.size) 7 30 w.heap.size w' v (allR l (rT l) s).1 ∧ Rr w' p a n c l (allR l (rT l) s).2 ∧ Fr [p] w w' :=
  allT_calls (rT l) (TasW.stays h.hp.lt (by decide) (by decide)) (fun W s hb hr => (rtask_calls hb hr).mono (by
    rintro e w' ⟨v, rfl, ⟨a, c, rfl, ho⟩, h1, h2⟩
    exact ⟨_, rfl, ⟨_, rfl, rfl, Tas.one3 _ _ _, ⟨a, c, rfl, ho⟩⟩, h1, h2⟩)) h
theorem readQ {w : World} {p : Nat} {a : Option Addr} {n c : Nat} {l : List Int} {s : Int × Int} (h : Rr w p a n c l s) :
    Calls Try.prog 87 #[.pointer (some ⟨p, 0, none⟩), mv 88 p] w fun e w' => ∃ v, e = .returned v ∧ RowW QueW 7 25 w.heap.size w' v (allR l (rQ l) s).1 ∧ Rr w' p a n c l (allR l (rQ l) s).2 ∧ Fr [p] w w' :=
  allQ_calls (rQ l) (fun _ _ _ _ _ _ _ h => h) (fun W s hb hr => (rqueue_calls hr).mono (by
    rintro e w' ⟨rfl, h1, h2⟩
    exact ⟨_, rfl, ⟨_, rfl, rfl, by simp [Value.oneCell', Que.cells], rfl⟩, h1, h2⟩)) h
theorem readN_ {w : World} {p : Nat} {a : Option Addr} {n c : Nat} {l : List Int} {s : Int × Int} (h : Rr w p a n c l s) :
    Calls Try.prog 89 #[.pointer (some ⟨p, 0, none⟩), mv 90 p] w fun e w' => ∃ v, e = .returned v ∧ RowW NodW 5 27 w.heap.size w' v (allR l (rN l) s).1 ∧ Rr w' p a n c l (allR l (rN l) s).2 ∧ Fr [p] w w' :=
  allN_calls (rN l) (fun _ _ _ _ _ _ _ h => h) (fun W s hb hr => (rnode_calls hr).mono (by
    rintro e w' ⟨rfl, h1, h2⟩
    exact ⟨_, rfl, ⟨_, rfl, rfl, by simp [Value.oneCell', Nod.cells], rfl⟩, h1, h2⟩)) h
theorem readH {w : World} {p : Nat} {a : Option Addr} {n c : Nat} {l : List Int} {s : Int × Int} (h : Rr w p a n c l s) :
    Calls Try.prog 93 #[.pointer (some ⟨p, 0, none⟩), mv 94 p] w fun e w' => ∃ v, e = .returned v ∧ RowW PairW 2 119 w.heap.size w' v (allR l (rH l) s).1 ∧ Rr w' p a n c l (allR l (rH l) s).2 ∧ Fr [p] w w' :=
  allH_calls (rH l) (fun _ _ _ _ _ _ _ h => h) (fun W s hb hr => (rhunger_calls hr).mono (by
    rintro e w' ⟨rfl, h1, h2⟩
    exact ⟨_, rfl, ⟨_, rfl, rfl, by simp [Value.oneCell'], rfl⟩, h1, h2⟩)) h
end Go.Fur
