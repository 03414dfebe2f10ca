/- What arguments read as: readers for whole numbers, bools, slices, structs, put together. No program is named here. -/
import Derived.Test.YtmhejgelmmjihaaArr
import Derived.ProofKit
import Derived.OpenShut
import Derived.ShutString
import Derived.ChangeOld
import Derived.Below
import Derived.Deep.Slices
import Derived.SizedLaws
namespace Go.Fur
open Go Go.RowKit Go.ChangeShapes Go.WideShapes Go.ChangeAt

/-- A reader: the cells of a thing, and what holds of it in a world. -/
structure Rdr (α : Type) where
  enc : α → List Value
  ok : World → α → Prop
/-- What reads as a datum of type t is a thing of the reader's. -/
def Sound {α : Type} (P : Program) (t : TypeId) (r : Rdr α) : Prop :=
  ∀ (H : Type) (encH : TypeId × Value → H) (W : World) (fuel : Nat) (cs : List Value) (x : DataW H × List MemPlace), DataW.trod encH P W 0 (fun _ => true) true fuel t cs = some x →
    (∀ n ∈ x.1.weights P t, n ≤ reachBytes) → ∃ a, cs = r.enc a ∧ r.ok W a
def intR (k : IntKind) : Rdr Int := ⟨fun x => [.int k x], fun _ x => (Lit.int k x).wf = true⟩
theorem intR_sound {P : Program} {t : TypeId} {k : IntKind} (ht : P.underlying t = some (.int k)) : Sound P t (intR k) := fun H encH W fuel cs x h _ => by
  obtain ⟨n, rfl, _, hn⟩ := DataW.trod_int ht h
  exact ⟨n, rfl, hn⟩
def boolR : Rdr Bool := ⟨fun x => [.bool x], fun _ _ => True⟩
theorem boolR_sound {P : Program} {t : TypeId} (ht : P.underlying t = some .bool) : Sound P t boolR := fun H encH W fuel cs x h _ => by
  obtain ⟨n, rfl, _⟩ := DataW.trod_bool ht h
  exact ⟨n, rfl, trivial⟩
/-- A slice's value: where it lies, its capacity, its elements. -/
structure SlV (α : Type) where
  a : Option Addr
  cap : Nat
  xs : List α
def SlV.val {α : Type} (s : SlV α) : Value := .slice s.a s.xs.length s.cap
def sliceR {α : Type} (r : Rdr α) (bytes : Nat) : Rdr (SlV α) :=
  ⟨fun s => [s.val], fun W s => s.xs.length ≤ s.cap ∧ s.cap ≤ maxLen ∧ s.cap * bytes ≤ reachBytes ∧ Rd W s.a (flat r.enc s.xs) ∧ (∀ x ∈ s.xs, r.ok W x) ∧ (s.a = none → s.cap = 0) ∧ (∀ a, s.a = some a → 0 < s.xs.length → a.block < W.heap.size)⟩
theorem weights_mem_all {H : Type} {P : Program} {e : TypeId} : ∀ (ds : List (DataW H)) (d : DataW H), d ∈ ds → ∀ n ∈ d.weights P e, n ∈ DataW.weightsAll P e ds
  | [], _, h, _, _ => by cases h
  | d0 :: ds, d, h, n, hn => by
    simp only [DataW.weightsAll, List.mem_append]
    rcases List.mem_cons.1 h with rfl | h
    · exact .inl hn
    · exact .inr (weights_mem_all ds d h n hn)
theorem list_of_fn {α : Type} {n : Nat} {p : Nat → α → Prop} (h : ∀ i, i < n → ∃ x, p i x) : ∃ l : List α, l.length = n ∧ ∀ i x, l[i]? = some x → p i x := by
  induction n with
  | zero => exact ⟨[], rfl, fun i x h => by simp at h⟩
  | succ n ih =>
    obtain ⟨l, hl, hp⟩ := ih (fun i hi => h i (by omega))
    obtain ⟨x, hx⟩ := h n (by omega)
    refine ⟨l ++ [x], by simp [hl], fun i y hy => ?_⟩
    rcases Nat.lt_trichotomy i l.length with hi | hi | hi
    · rw [List.getElem?_append_left hi] at hy
      exact hp i y hy
    · subst hi
      rw [List.getElem?_append_right (Nat.le_refl _)] at hy
      simp at hy
      subst hy
      rw [hl]
      exact hx
    · rw [List.getElem?_eq_none (by simp; omega)] at hy
      cases hy
theorem flat_getElem {α : Type} (f : α → List Value) (k : Nat) (xs : List α) (h : ∀ x ∈ xs, (f x).length = k) (j : Nat) (v : Value) (hv : (flat f xs)[j]? = some v) : ∃ i q x, j = i * k + q ∧ xs[i]? = some x ∧ (f x)[q]? = some v := by
  induction xs generalizing j with
  | nil => simp [flat] at hv
  | cons y ys ih =>
    rw [flat_cons] at hv
    have hy := h y (by simp)
    by_cases hj : j < k
    · rw [List.getElem?_append_left (by omega)] at hv
      exact ⟨0, j, y, by omega, rfl, hv⟩
    · rw [List.getElem?_append_right (by omega), hy] at hv
      obtain ⟨i, q, x, h1, h2, h3⟩ := ih (fun z hz => h z (by simp [hz])) (j - k) hv
      exact ⟨i + 1, q, x, by rw [Nat.succ_mul]; omega, by simpa using h2, h3⟩
theorem sliceR_sound {α : Type} {P : Program} {t e : TypeId} {r : Rdr α} {k bytes : Nat} (ht : P.underlying t = some (.slice e)) (hk : P.cellsOf e = k) (h0 : 0 < k) (hb : P.bytesOf e = bytes) (hr : Sound P e r) : Sound P t (sliceR r bytes) := by
  subst hk; subst hb
  intro H encH W fuel cs x h hw
  rcases Deep.open_slice ht h with ⟨rfl, _⟩ | ⟨a, len, cap, m, n, D, Pl, rfl, _, hl, hm, hmm, rfl, hx⟩
  · exact ⟨⟨none, 0, []⟩, rfl, Nat.le_refl _, Nat.zero_le _, by simp, Rd.nil _ _, by simp, fun _ => rfl, fun _ h => by cases h⟩
  · simp only [if_true] at hmm
    subst hmm
    have hws : ∀ n ∈ ((List.range len).map D ++ (List.range (m - len)).map fun j => D (len + j)).length * P.bytesOf e :: (DataW.weightsAll P e ((List.range len).map D) ++ DataW.weightsAll P e ((List.range (m - len)).map fun j => D (len + j))), n ≤ reachBytes := by
      simpa [DataW.weights, ht] using hw
    have hlist : ∃ l : List α, l.length = len ∧ ∀ i y, l[i]? = some y → W.cells? 0 (a.add (i * P.cellsOf e)) (P.cellsOf e) = some (r.enc y) ∧ r.ok W y := by
      refine list_of_fn fun i hi => ?_
      obtain ⟨cs', h1, h2⟩ := hx i (by omega)
      obtain ⟨y, rfl, hy⟩ := hr H encH W n cs' _ h2 (fun n hn => hws n (by
        simp only [List.mem_cons, List.mem_append]
        exact .inr (.inl (weights_mem_all _ (D i) (List.mem_map.2 ⟨i, List.mem_range.2 hi, rfl⟩) n hn))))
      exact ⟨y, h1, hy⟩
    obtain ⟨l, hll, hp⟩ := hlist
    have hcap : m * P.bytesOf e ≤ reachBytes := by
      have := hws _ (by simp only [List.mem_cons]; exact .inl rfl)
      simp only [List.length_append, List.length_map, List.length_range] at this
      rwa [show len + (m - len) = m from by omega] at this
    have hrd : ∀ i y, l[i]? = some y → (r.enc y).length = P.cellsOf e ∧ ∀ q v, (r.enc y)[q]? = some v → W.cell? (a.add (i * P.cellsOf e + q)) = some v := fun i y hy => by
      obtain ⟨_, h2, h3⟩ := World.cells?_some (hp i y hy).1
      refine ⟨h2, fun q v hv => ?_⟩
      have hq := (List.getElem?_eq_some_iff.1 hv).1
      have := h3 q (by omega)
      rwa [Deep.add_add, hv] at this
    have hspot : l ≠ [] → a.spot = none ∧ a.block < W.heap.size := fun hne => by
      obtain ⟨y, ys, rfl⟩ := List.exists_cons_of_ne_nil hne
      obtain ⟨h1, h2⟩ := hrd 0 y rfl
      have h3 := h2 0 ((r.enc y)[0]'(by omega)) (List.getElem?_eq_getElem (by omega))
      have h4 : W.cell? a = some ((r.enc y)[0]'(by omega)) := by simpa [Addr.add] using h3
      exact ⟨by simpa using World.cell?_spot h4, World.block_lt_of_cell? W _ h4⟩
    refine ⟨⟨some a, m, l⟩, by simp [sliceR, SlV.val, hll], by simpa [hll] using hl, hm, hcap, ?_, fun y hy => ?_, fun h => (by cases h), fun a' ha' hpos => ?_⟩
    · intro hne
      have hl0 : l ≠ [] := fun h0 => hne (by subst h0; rfl)
      obtain ⟨b, o, s⟩ := a
      obtain ⟨hs, _⟩ := hspot hl0
      simp only at hs
      subst hs
      refine ⟨b, o, rfl, fun j v hv => ?_⟩
      obtain ⟨i, q, y, rfl, hy, hq⟩ := flat_getElem r.enc (P.cellsOf e) l (fun y hy => by
        obtain ⟨i, hi⟩ := List.getElem?_of_mem hy
        exact (hrd i y hi).1) j v hv
      have := (hrd i y hy).2 q v hq
      rwa [Addr.add_mid] at this
    · obtain ⟨i, hi⟩ := List.getElem?_of_mem hy
      exact (hp i y hi).2
    · have : a' = a := by injection ha' with h; exact h.symm
      subst this
      exact (hspot (fun h0 => by subst h0; simp at hpos)).2

/-- The fields of a struct, one behind the other. -/
def SoundF {β : Type} (P : Program) (fs : List Field) (off n : Nat) (r : Rdr β) : Prop :=
  ∀ (H : Type) (encH : TypeId × Value → H) (W : World) (fuel : Nat) (cs : List Value) (xs : List (DataW H × List MemPlace)), cs.length = off + n →
    xs.length = fs.length → (∀ (i : Nat) (f : Field), fs[i]? = some f → DataW.trod encH P W 0 (fun _ => true) true fuel f.type ((cs.drop f.offset).take (P.cellsOf f.type)) = xs[i]?) →
    (∀ n ∈ DataW.weightsEach P (fs.map (·.type)) (xs.map (·.1)), n ≤ reachBytes) → ∃ y, cs.drop off = r.enc y ∧ r.ok W y
def nilR : Rdr Unit := ⟨fun _ => [], fun _ _ => True⟩
def consR {α β : Type} (r : Rdr α) (s : Rdr β) : Rdr (α × β) := ⟨fun x => r.enc x.1 ++ s.enc x.2, fun W x => r.ok W x.1 ∧ s.ok W x.2⟩
theorem nilF {P : Program} (off : Nat) : SoundF P [] off 0 nilR := fun H encH W fuel cs xs hl _ _ _ => ⟨(), List.drop_eq_nil_of_le (by omega), trivial⟩
theorem consF {α β : Type} {P : Program} {f : Field} {fs : List Field} {off k n : Nat} {r : Rdr α} {s : Rdr β} (ho : f.offset = off) (hk : P.cellsOf f.type = k) (hr : Sound P f.type r) (hs : SoundF P fs (off + k) n s) : SoundF P (f :: fs) off (k + n) (consR r s) := by
  subst ho; subst hk
  intro H encH W fuel cs xs hl hxl hx hw
  match xs, hxl with
  | x :: xs, hxl =>
    have h1 := hx 0 f rfl
    simp only [List.getElem?_cons_zero] at h1
    simp only [List.map_cons, DataW.weightsEach, List.mem_append] at hw
    obtain ⟨a, ha, hoa⟩ := hr H encH W fuel _ x h1 (fun n hn => hw n (.inl hn))
    obtain ⟨y, hy, hoy⟩ := hs H encH W fuel cs xs (by omega) (by simpa using hxl) (fun i g hg => by simpa using hx (i + 1) g (by simpa using hg)) (fun n hn => hw n (.inr hn))
    refine ⟨(a, y), ?_, hoa, hoy⟩
    simp only [consR]
    rw [← ha, ← hy, ← List.drop_drop, List.take_append_drop]
theorem structR {β : Type} {P : Program} {t : TypeId} {fs : List Field} {n : Nat} {r : Rdr β} (ht : P.underlying t = some (.struct fs.toArray)) (hn : P.cellsOf t = n) (hs : SoundF P fs 0 n r) : Sound P t r := fun H encH W fuel cs x h hw => by
  obtain ⟨xs, m, _, rfl, hlen, hxl, hx⟩ := DataW.trod_struct ht h
  obtain ⟨y, hy, hoy⟩ := hs H encH W m cs xs (by omega) (by simpa using hxl) (fun i f hf => hx i f (by simpa using hf)) (by simpa [DataW.weights, ht] using hw)
  exact ⟨y, by simpa using hy, hoy⟩

/-- An argument, by its place. -/
theorem read_arg {α : Type} {P : Program} {t : TypeId} {r : Rdr α} (hr : Sound P t r) {H : Type} {encH : TypeId × Value → H} {W : World} {v : Value} {d : DataW H} {ps : List MemPlace} (h : DataW.Trod encH P W 0 (fun _ => true) true t v d ps)
    {ts : List TypeId} {ds : List (DataW H)} (hw : (DataW.weightsEach P ts ds).all (· ≤ reachBytes) = true) {j : Nat} (ht : ts[j]? = some t) (hd : ds[j]? = some d) : ∃ a, v.cells.toList = r.enc a ∧ r.ok W a := by
  obtain ⟨fuel, hf⟩ := h
  exact hr H encH W fuel _ _ hf (fun n hn => by
    have := List.all_eq_true.1 hw n (DataW.weights_mem_each ht hd n hn)
    simpa using this)
theorem one_of_cells {v u : Value} (hv : v.cells = #[v]) (h : v.cells.toList = [u]) : v = u := by
  rw [hv] at h
  simpa using h
theorem agg_of_cells {cs : Array Value} {l : List Value} (h : (Value.agg cs).cells.toList = l) : Value.agg cs = .agg l.toArray := by
  subst h
  simp [Value.cells]
end Go.Fur
