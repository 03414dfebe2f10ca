/- Slices of slices: one equation each, whatever the capacity. No program is named here. -/
import Derived.Test.YtmhejgelmmjihaaArr2
namespace Go.Fur
open Go Go.RowKit
theorem Rd.takeN {w : World} {a : Option Addr} {cs : List Value} (h : Rd w a cs) (n : Nat) : Rd w a (cs.take n) := fun hn => by
  obtain ⟨b, o, ha, hr⟩ := h (fun h0 => hn (by rw [h0]; simp))
  refine ⟨b, o, ha, fun j v hv => ?_⟩
  rw [List.getElem?_take] at hv
  split at hv
  · exact hr j v hv
  · cases hv
theorem Rd.dropN {w : World} {b o : Nat} {cs : List Value} (h : Rd w (some ⟨b, o, none⟩) cs) (n : Nat) : Rd w (some ⟨b, o + n, none⟩) (cs.drop n) := fun hn => by
  obtain ⟨b', o', ha, hr⟩ := h (fun h0 => hn (by rw [h0]; simp))
  simp only [Option.some.injEq, Addr.mk.injEq] at ha
  obtain ⟨rfl, rfl, _⟩ := ha
  refine ⟨_, _, rfl, fun j v hv => ?_⟩
  rw [List.getElem?_drop] at hv
  have := hr (n + j) v hv
  rwa [← Nat.add_assoc] at this
theorem Own.blkOf {w : World} {b : Nat} {e : TypeId} {size n : Nat} {v : Value} {cs : List Value} (h : Own w b e size v n cs) {k : Nat} (hk : k ∈ ob v) : ∃ cur, Blk w k e cur := by
  rcases h.2 with ⟨rfl, _⟩ | ⟨g', cap, cur, rfl, hg, hh, r⟩
  · simp [ob, Value.ownBlock] at hk
  · have : k = g' := by simpa [ob, Value.ownBlock] using hk
    subst this
    exact ⟨cur.toList, by unfold Blk; simpa using hh⟩
section
variable {P : Program}
theorem slice_lh {t e : TypeId} (hu : P.underlying t = some (.slice e)) (hs : (P.info? e).map (·.size) = some 1) (a : Option Addr) (n c lo hi : Nat) (l h : Int) (hl : l = (lo : Nat)) (hh : h = (hi : Nat)) (h1 : lo ≤ hi) (h2 : hi ≤ c) :
    ∃ a', (∀ (W : World) (cs : List Value), Rd W a cs → Rd W a' ((cs.drop lo).take (hi - lo))) ∧ ∀ W : World, (Instr.slice t (.slice a n c) (some (.int .i64 l)) (some (.int .i64 h)) none).run P W = .ok (.slice a' (hi - lo) (c - lo)) W := by
  have he : P.elem t = e := by simp [Program.elem, hu]
  have hsz : ∀ W, (sizeOf e).run P W = .ok 1 W := fun W => by
    cases hq : P.info? e with
    | none => simp [hq] at hs
    | some i =>
      have hsz : i.size = 1 := by simpa [hq] using hs
      simp [sizeOf, typeInfo, hq, hsz]
  refine ⟨if c = lo then a else a.map (·.add (lo * 1)), fun W cs hr => ?_, fun W => ?_⟩
  · by_cases hc : c = lo
    · rw [if_pos hc, show hi - lo = 0 by omega, List.take_zero]
      exact Rd.nil _ _
    · rw [if_neg hc]
      intro hn
      obtain ⟨b, o, rfl, hr'⟩ := hr (fun h0 => hn (by rw [h0]; simp))
      have := ((Rd.mk hr').dropN lo).takeN (hi - lo) hn
      rw [Nat.mul_one, Option.map_some, Addr.add_mid]
      exact this
  · rw [run_slice_lh W t a n c (by rw [hu, he]) .i64 .i64 l h (by omega) (by omega) (by omega), he, hsz]
    simp only [Result.andThen, sliced]
    rw [show l.toNat = lo by omega, show h.toNat = hi by omega]
theorem slice_l {t e : TypeId} (hu : P.underlying t = some (.slice e)) (hs : (P.info? e).map (·.size) = some 1) (a : Option Addr) (n c lo : Nat) (l : Int) (hl : l = (lo : Nat)) (h1 : lo ≤ n) (h2 : n ≤ c) :
    ∃ a', (∀ (W : World) (cs : List Value), Rd W a cs → cs.length = n → Rd W a' (cs.drop lo)) ∧ ∀ W : World, (Instr.slice t (.slice a n c) (some (.int .i64 l)) none none).run P W = .ok (.slice a' (n - lo) (c - lo)) W := by
  have he : P.elem t = e := by simp [Program.elem, hu]
  have hsz : ∀ W, (sizeOf e).run P W = .ok 1 W := fun W => by
    cases hq : P.info? e with
    | none => simp [hq] at hs
    | some i =>
      have hsz : i.size = 1 := by simpa [hq] using hs
      simp [sizeOf, typeInfo, hq, hsz]
  refine ⟨if c = lo then a else a.map (·.add (lo * 1)), fun W cs hr hn => ?_, fun W => ?_⟩
  · by_cases hc : c = lo
    · rw [if_pos hc, List.drop_eq_nil_of_le (by omega)]
      exact Rd.nil _ _
    · rw [if_neg hc]
      intro hn
      obtain ⟨b, o, rfl, hr'⟩ := hr (fun h0 => hn (by rw [h0]; simp))
      have := (Rd.mk hr').dropN lo hn
      rw [Nat.mul_one, Option.map_some, Addr.add_mid]
      exact this
  · rw [run_slice_l W t a n c (by rw [hu, he]) .i64 l (by omega) (by omega), he, hsz]
    simp only [Result.andThen, sliced]
    rw [show l.toNat = lo by omega]
/-- append(v, x..), v full and read: the row is new. -/
theorem wpList_appF {w : World} {ops : Array Oper} {rest : List Oper} {o : Oper} {a : Act} {Q : Exit → Act → World → Prop} (hgd : o.guard = none) (s y : Operand) (t tx : TypeId)
    (ho : o.op = .call { callee := .builtin .append, args := #[s, y], argTypes := #[t, tx] })
    (e e' : TypeId) (k : IntKind) (bytes : Nat) (ht : P.underlying t = some (.slice e)) (htx : P.underlying tx = some (.slice e')) (hi : (P.info? e).map (fun i => (i.zero, i.size, i.bytes)) = some (some (.int k 0), 1, bytes))
    (ad0 : Option Addr) (n : Nat) (xs : List Value) (hv : a.eval s = .slice ad0 n n) (hxs : Rd w ad0 xs) (hxl : xs.length = n)
    (ad : Option Addr) (m c : Nat) (news : List Value) (hx : a.eval y = .slice ad m c) (hs : Rd w ad news) (hm : news.length = m) (hm0 : 0 < m) (h1 : ∀ v ∈ news, v.oneCell' = true)
    (h63 : n + m ≤ maxLen) (hbytes : (n + m) * bytes ≤ 140737488355328)
    (h : ∀ v' w', Own w' w.heap.size e 1 v' (n + m) (xs ++ news) → Fr [] w w' → wpList P ops Q rest (a.put o.dst v') w') : wpList P ops Q (o :: rest) a w := by
  obtain ⟨i0, hi0, hz0, hz1, hz2⟩ := info_parts hi
  subst hz2
  refine wpList_plain hgd fun K hK => ?_
  have hold : (Builtin.firstCells i0.size n (.slice ad0 n n)).run P w.drew = .ok xs.toArray w.drew := by
    by_cases h0 : xs = []
    · subst h0
      have hn0 : n = 0 := by simpa using hxl.symm
      subst hn0
      cases ad0 with
      | none => exact run_firstCells_none _ _ _ _ _
      | some a0 =>
        refine run_firstCells_some w.drew i0.size 0 a0 0 0 [] (by simp) (fun j u hu => by simp at hu)
    · obtain ⟨b, ob, rfl, hr⟩ := hxs h0
      refine run_firstCells_some w.drew i0.size n ⟨b, ob, none⟩ n n xs (by rw [hz1, Nat.mul_one]; exact hxl) (fun j u hu => ?_)
      rw [Addr.add_mid]
      exact hr j u hu
  have hsrc := hs.src (P := P) (size := i0.size) (n := m) (c := c) htx (by rw [hm, hz1, Nat.mul_one]) h1
  have hfit : Builtin.nextslicecap (n + m) n * i0.bytes ≤ 281474976710656 := growslice_fits (by omega) hbytes
  have hr := run_append_grow_src w t tx o.type e i0 _ ht hi0 hz0 ad0 n n xs hold _ m news hsrc (by omega) (by simp only [maxLen] at h63; omega) hfit
  unfold Oper.wp execOp
  simp only [ho, resolve, invoke, builtin, Sem.run_bind, Sem.run_pure, Result.andThen_ok, List.map_toArray, List.map_cons, List.map_nil, hv, hx, hr]
  refine hK _ _ (h _ _ ?_ (((Fr.refl _ w).drew).alloc _))
  have hge := grownCap_ge w (n + m) n e
  have hle := grownCap_le_maxLen w (n + m) n e h63
  have hb := Blk.newA w.drew e ((xs ++ news).toArray ++ Builtin.zeroCells (Value.int k 0).cells (grownCap w (n + m) n e - (n + m)))
  have := Own.of_blk (base := w.heap.size) (size := 1) (Nat.le_refl _) hb hge hle (by simp [size_zeroCells, hxl, hm, Value.cells]; omega)
  simp only [Array.toList_append, Nat.mul_one] at this
  rw [List.take_append_of_le_length (by simp [hxl, hm]), List.take_of_length_le (by simp [hxl, hm])] at this
  exact this
end
end Go.Fur
