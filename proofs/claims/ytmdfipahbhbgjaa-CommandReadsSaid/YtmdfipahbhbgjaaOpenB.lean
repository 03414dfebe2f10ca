/- Readers of arguments, with a measure of their bulk. -/
import Derived.Test.YtmdfipahbhbgjaaOpen
import Derived.Test.YtmdfipahbhbgjaaRows
namespace Go.Fur
open Go Go.RowKit
open Go.Proofs.Ytmdfipahbhbgjaa.Rows (uptoBulk uptoBulkAll)
set_option linter.unusedVariables false
/-- What reads as a datum of type t is a thing of the reader's, of a measure that is no more than the datum's bulk. -/
def SoundB {α : Type} (P : Program) (t : TypeId) (r : Rdr α) (m : α → Nat) : Prop :=
  ∀ (H : Type) (encH : TypeId × Value → H) (W : World) (fuel : Nat) (cs : List Value) (x : DataW H × List MemPlace), DataW.trod encH P W 0 (fun _ => true) true fuel t cs = some x →
    (∀ n ∈ x.1.weights P t, n ≤ reachBytes) → ∃ a, cs = r.enc a ∧ r.ok W a ∧ m a ≤ uptoBulk x.1
theorem bulk_pos {H : Type} : ∀ d : DataW H, 1 ≤ uptoBulk d
  | .lit l => by cases l <;> simp [uptoBulk]
  | .nil => by simp [uptoBulk]
  | .ptr d => by simp [uptoBulk]
  | .slice _ _ => by simp [uptoBulk]
  | .agg _ => by simp [uptoBulk]
  | .iface _ _ => by simp [uptoBulk]
  | .map _ => by simp [uptoBulk]
  | .held _ => by simp [uptoBulk]
theorem intB {P : Program} {t : TypeId} {k : IntKind} (ht : P.underlying t = some (.int k)) : SoundB P t (intR k) (fun _ => 1) := fun H encH W fuel cs x h hw => by
  obtain ⟨a, h1, h2⟩ := intR_sound ht H encH W fuel cs x h hw
  exact ⟨a, h1, h2, bulk_pos _⟩
theorem boolB {P : Program} {t : TypeId} (ht : P.underlying t = some .bool) : SoundB P t boolR (fun _ => 1) := fun H encH W fuel cs x h hw => by
  obtain ⟨a, h1, h2⟩ := boolR_sound ht H encH W fuel cs x h hw
  exact ⟨a, h1, h2, bulk_pos _⟩
theorem bulkAll_ge {H α : Type} (m : α → Nat) : ∀ (l : List α) (ds : List (DataW H)), l.length = ds.length → (∀ (i : Nat) y d, l[i]? = some y → ds[i]? = some d → m y ≤ uptoBulk d) → (l.map m).sum ≤ uptoBulkAll ds
  | [], ds, _, _ => by simp
  | y :: l, d :: ds, hl, h => by
    have h0 := h 0 y d rfl rfl
    have h1 := bulkAll_ge m l ds (by simpa using hl) (fun i y' d' hy hd => h (i + 1) y' d' (by simpa using hy) (by simpa using hd))
    simp only [List.map_cons, List.sum_cons, uptoBulkAll]
    omega
theorem sliceB {α : Type} {P : Program} {t e : TypeId} {r : Rdr α} {k bytes : Nat} (ht : P.underlying t = some (.slice e)) (hk : P.cellsOf e = k) (h0 : 0 < k) (hb : P.bytesOf e = bytes) {me : α → Nat} (hr : SoundB P e r me) : SoundB P t (sliceR r bytes) (fun s => (s.xs.map me).sum) := by
  subst hk; subst hb
  intro H encH W fuel cs x h hw
  rcases Deep.open_slice ht h with ⟨rfl, _⟩ | ⟨a, len, cap, m, n, D, Pl, rfl, _, hl, hm, hmm, rfl, hx⟩
  · exact ⟨⟨none, 0, []⟩, rfl, ⟨Nat.le_refl _, Nat.zero_le _, by simp, Rd.nil _ _, by simp, fun _ => rfl, fun _ h => by cases h⟩, by simp⟩
  · simp only [if_true] at hmm
    subst hmm
    have hws : ∀ n ∈ ((List.range len).map D ++ (List.range (m - len)).map fun j => D (len + j)).length * P.bytesOf e :: (DataW.weightsAll P e ((List.range len).map D) ++ DataW.weightsAll P e ((List.range (m - len)).map fun j => D (len + j))), n ≤ reachBytes := by
      simpa [DataW.weights, ht] using hw
    have hlist : ∃ l : List α, l.length = len ∧ ∀ i y, l[i]? = some y → W.cells? 0 (a.add (i * P.cellsOf e)) (P.cellsOf e) = some (r.enc y) ∧ r.ok W y ∧ me y ≤ uptoBulk (D i) := by
      refine list_of_fn fun i hi => ?_
      obtain ⟨cs', h1, h2⟩ := hx i (by omega)
      obtain ⟨y, rfl, hy, hm1⟩ := hr H encH W n cs' _ h2 (fun n hn => hws n (by
        simp only [List.mem_cons, List.mem_append]
        exact .inr (.inl (weights_mem_all _ (D i) (List.mem_map.2 ⟨i, List.mem_range.2 hi, rfl⟩) n hn))))
      exact ⟨y, h1, hy, hm1⟩
    obtain ⟨l, hll, hp⟩ := hlist
    have hcap : m * P.bytesOf e ≤ reachBytes := by
      have := hws _ (by simp only [List.mem_cons]; exact .inl rfl)
      simp only [List.length_append, List.length_map, List.length_range] at this
      rwa [show len + (m - len) = m from by omega] at this
    have hrd : ∀ i y, l[i]? = some y → (r.enc y).length = P.cellsOf e ∧ ∀ q v, (r.enc y)[q]? = some v → W.cell? (a.add (i * P.cellsOf e + q)) = some v := fun i y hy => by
      obtain ⟨_, h2, h3⟩ := World.cells?_some (hp i y hy).1
      refine ⟨h2, fun q v hv => ?_⟩
      have hq := (List.getElem?_eq_some_iff.1 hv).1
      have := h3 q (by omega)
      rwa [Deep.add_add, hv] at this
    have hspot : l ≠ [] → a.spot = none ∧ a.block < W.heap.size := fun hne => by
      obtain ⟨y, ys, rfl⟩ := List.exists_cons_of_ne_nil hne
      obtain ⟨h1, h2⟩ := hrd 0 y rfl
      have h3 := h2 0 ((r.enc y)[0]'(by omega)) (List.getElem?_eq_getElem (by omega))
      have h4 : W.cell? a = some ((r.enc y)[0]'(by omega)) := by simpa [Addr.add] using h3
      exact ⟨by simpa using World.cell?_spot h4, World.block_lt_of_cell? W _ h4⟩
    refine ⟨⟨some a, m, l⟩, by simp [sliceR, SlV.val, hll], ⟨by simpa [hll] using hl, hm, hcap, ?_, fun y hy => ?_, fun h => (by cases h), fun a' ha' hpos => ?_⟩, ?_⟩
    · intro hne
      have hl0 : l ≠ [] := fun h0 => hne (by subst h0; rfl)
      obtain ⟨b, o, s⟩ := a
      obtain ⟨hs, _⟩ := hspot hl0
      simp only at hs
      subst hs
      refine ⟨b, o, rfl, fun j v hv => ?_⟩
      obtain ⟨i, q, y, rfl, hy, hq⟩ := flat_getElem r.enc (P.cellsOf e) l (fun y hy => by
        obtain ⟨i, hi⟩ := List.getElem?_of_mem hy
        exact (hrd i y hi).1) j v hv
      have := (hrd i y hy).2 q v hq
      rwa [Addr.add_mid] at this
    · obtain ⟨i, hi⟩ := List.getElem?_of_mem hy
      exact (hp i y hi).2.1
    · have : a' = a := by injection ha' with h; exact h.symm
      subst this
      exact (hspot (fun h0 => by subst h0; simp at hpos)).2
    · have h9 := bulkAll_ge me l ((List.range len).map D) (by simp [hll]) (fun i y d hy hd => by
        have hi := (List.getElem?_eq_some_iff.1 hy).1
        rw [List.getElem?_map, List.getElem?_range (by omega)] at hd
        injection hd with hd
        subst hd
        exact (hp i y hy).2.2)
      simp only [uptoBulk]
      omega

/-- The fields of a struct, one behind the other. -/
def SoundFB {β : Type} (P : Program) (fs : List Field) (off n : Nat) (r : Rdr β) (m : β → Nat) : Prop :=
  ∀ (H : Type) (encH : TypeId × Value → H) (W : World) (fuel : Nat) (cs : List Value) (xs : List (DataW H × List MemPlace)), cs.length = off + n →
    xs.length = fs.length → (∀ (i : Nat) (f : Field), fs[i]? = some f → DataW.trod encH P W 0 (fun _ => true) true fuel f.type ((cs.drop f.offset).take (P.cellsOf f.type)) = xs[i]?) →
    (∀ n ∈ DataW.weightsEach P (fs.map (·.type)) (xs.map (·.1)), n ≤ reachBytes) → ∃ y, cs.drop off = r.enc y ∧ r.ok W y ∧ m y ≤ uptoBulkAll (xs.map (·.1))
theorem nilFB {P : Program} (off : Nat) : SoundFB P [] off 0 nilR (fun _ => 0) := fun H encH W fuel cs xs hl _ _ _ => ⟨(), List.drop_eq_nil_of_le (by omega), trivial, Nat.zero_le _⟩
theorem consFB {α β : Type} {P : Program} {f : Field} {fs : List Field} {off k n : Nat} {r : Rdr α} {s : Rdr β} {m1 : α → Nat} {m2 : β → Nat} (ho : f.offset = off) (hk : P.cellsOf f.type = k) (hr : SoundB P f.type r m1) (hs : SoundFB P fs (off + k) n s m2) : SoundFB P (f :: fs) off (k + n) (consR r s) (fun x => m1 x.1 + m2 x.2) := by
  subst ho; subst hk
  intro H encH W fuel cs xs hl hxl hx hw
  match xs, hxl with
  | x :: xs, hxl =>
    have h1 := hx 0 f rfl
    simp only [List.getElem?_cons_zero] at h1
    simp only [List.map_cons, DataW.weightsEach, List.mem_append] at hw
    obtain ⟨a, ha, hoa, hma⟩ := hr H encH W fuel _ x h1 (fun n hn => hw n (.inl hn))
    obtain ⟨y, hy, hoy, hmy⟩ := hs H encH W fuel cs xs (by omega) (by simpa using hxl) (fun i g hg => by simpa using hx (i + 1) g (by simpa using hg)) (fun n hn => hw n (.inr hn))
    refine ⟨(a, y), ?_, ⟨hoa, hoy⟩, ?_⟩
    · simp only [consR]
      rw [← ha, ← hy, ← List.drop_drop, List.take_append_drop]
    · simp only [List.map_cons, uptoBulkAll]
      omega
theorem structB {β : Type} {P : Program} {t : TypeId} {fs : List Field} {n : Nat} {r : Rdr β} {m : β → Nat} (ht : P.underlying t = some (.struct fs.toArray)) (hn : P.cellsOf t = n) (hs : SoundFB P fs 0 n r m) : SoundB P t r m := by
  subst hn
  intro H encH W fuel cs x h hw
  obtain ⟨xs, k, _, rfl, hlen, hxl, hx⟩ := DataW.trod_struct ht h
  obtain ⟨y, hy, hoy, hmy⟩ := hs H encH W k cs xs (by omega) (by simpa using hxl) (fun i f hf => hx i f (by simpa using hf)) (by simpa [DataW.weights, ht] using hw)
  refine ⟨y, by simpa using hy, hoy, ?_⟩
  simp only [uptoBulk]
  omega
/-- An argument, by its place. -/
theorem read_argB {α : Type} {P : Program} {t : TypeId} {r : Rdr α} {m : α → Nat} (hr : SoundB P t r m) {H : Type} {encH : TypeId × Value → H} {W : World} {v : Value} {d : DataW H} {ps : List MemPlace} (h : ∃ fuel, DataW.trod encH P W 0 (fun _ => true) true fuel t v.cells.toList = some (d, ps))
    {ts : List TypeId} {ds : List (DataW H)} (hw : (DataW.weightsEach P ts ds).all (· ≤ reachBytes) = true) {j : Nat} (ht : ts[j]? = some t) (hd : ds[j]? = some d) : ∃ a, v.cells.toList = r.enc a ∧ r.ok W a ∧ m a ≤ uptoBulk d := by
  obtain ⟨fuel, hf⟩ := h
  exact hr H encH W fuel _ _ hf (fun n hn => by
    have := List.all_eq_true.1 hw n (DataW.weights_mem_each ht hd n hn)
    simpa using this)
end Go.Fur
