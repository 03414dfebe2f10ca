/- strip.LayInt, LayBytes, ReadInt: contracts, for any bytes ahead. -/
import Derived.Test.YtclnikmnfnedkaaCStripRB
import Derived.Test.YtclnikmnfnedkaaCStrip1
import Derived.Lib.Zigzag
import Derived.Outline
import Derived.Test.YtclnikmnfnedkaaCArr
import Derived.ProofKit
import Derived.OpenShut
import Derived.ShutString
import Derived.ChangeOld
import Derived.Below
import Derived.Deep.Slices
import Derived.SizedLaws
import Derived.BigQuiet
namespace Go.Fur
open Go Go.RowKit Go.Proofs
set_option linter.unusedVariables false
set_option linter.unusedSimpArgs false
/-- '^a'. -/
theorem i64_compl (a : Int) (h0 : -9223372036854775808 ≤ a) (h1 : a < 9223372036854775808) : bits .xor .i64 (-1) a = -1 - a := by
  show IntKind.i64.wrap ((BitVec.ofInt 64 (-1) ^^^ BitVec.ofInt 64 a).toNat : Int) = _
  have e1 : (BitVec.ofInt 64 (-1)).toNat = 2 ^ 64 - 1 := by decide
  have e2 : (BitVec.ofInt 64 a).toNat = (a % 18446744073709551616).toNat := by rw [BitVec.toNat_ofInt]; rfl
  rw [BitVec.toNat_xor, e1, e2, Lib.xor_ones64 _ (by omega), IntKind.wrap_i64]
  omega
/-- A whole number as a number; its bytes. -/
def zig (y : Int) : Nat := if y < 0 then (2 * (-y - 1) + 1).toNat else (2 * y).toNat
def layI (y : Int) : List Int := layN (zig y)
/-- Is it an int64? -/
def I64 (y : Int) : Prop := -9223372036854775808 ≤ y ∧ y < 9223372036854775808
theorem zig_lt (y : Int) (h : I64 y) : zig y < 18446744073709551616 := by
  obtain ⟨h0, h1⟩ := h
  unfold zig
  split <;> omega
theorem layI_length (y : Int) : (layI y).length ≤ 9 := by
  unfold layI
  rw [layN_length]
  have := kl_le (zig y)
  omega
def layB (p : List Int) : List Int := layN p.length ++ p
theorem layB_length (p : List Int) : (layB p).length ≤ 9 + p.length := by
  unfold layB
  rw [List.length_append, layN_length]
  have := kl_le p.length
  omega
theorem layInt_calls (w : World) (a : Option Addr) (n c : Nat) (l : List Int) (hl : l.length = n) (hn : n + 9 ≤ 140737488355328) (ra : Rd w a (bv l)) (y : Int) (hy : I64 y) :
    Calls Try.prog 43 #[.slice a n c, .int .i64 y] w fun e w' => ∃ v, e = .returned v ∧ Own w' w.heap.size 5 1 v (l ++ layI y).length (bv (l ++ layI y)) ∧ Fr [] w w' := by
  have hz := zig_lt y hy
  have hll := layN_length (zig y)
  have hk8 := kl_le (zig y)
  have hc := lay_calls w a n c l hl hn ra (zig y) hz
  rw [show n + (layN (zig y)).length = (l ++ layN (zig y)).length by rw [List.length_append, hl]] at hc
  have HC := Lib.hid hc
  obtain ⟨h0, h1⟩ := hy
  unfold layI
  by_cases hn : y < 0
  · have e : IntKind.u64.wrap (IntKind.u64.wrap (2 * IntKind.u64.wrap (bits .xor .i64 (-1) y)) + 1) = (zig y : Int) := by
      rw [i64_compl y h0 h1]
      simp only [IntKind.wrap_u64]
      unfold zig
      rw [if_pos hn]
      omega
    clear hc h0 h1 hz ra
    generalize zig y = z at *
    have HE := Lib.hid e
    clear e
    have hsg : IntKind.i64.signed = true := rfl
    go_enter Try.func43, Try.ntmps43
    go_wp2_with fail
    rw [HE.out]
    refine HC.out.mono ?_
    rintro e w' ⟨v, rfl, hO, hF⟩
    have HO := Lib.hid hO
    have HF := Lib.hid hF
    clear hO hF
    go_wp2_with fail
    go_ret
    exact ⟨v, rfl, HO.out, HF.out⟩
  · have e : IntKind.u64.wrap (2 * IntKind.u64.wrap y) = (zig y : Int) := by
      simp only [IntKind.wrap_u64]
      unfold zig
      rw [if_neg hn]
      omega
    have hn0 : 0 ≤ y := by omega
    clear hc h0 h1 hz hn0 ra
    generalize zig y = z at *
    have HE := Lib.hid e
    clear e
    go_enter Try.func43, Try.ntmps43
    go_wp2_with fail
    rw [HE.out]
    refine HC.out.mono ?_
    rintro e w' ⟨v, rfl, hO, hF⟩
    have HO := Lib.hid hO
    have HF := Lib.hid hF
    clear hO hF
    go_wp2_with fail
    go_ret
    exact ⟨v, rfl, HO.out, HF.out⟩
set_option maxRecDepth 100000 in
theorem layBytes_calls (w : World) (a b : Option Addr) (n c m d : Nat) (l p : List Int) (hl : l.length = n) (hp : p.length = m) (hn : n + m + 9 ≤ 140737488355328) (ra : Rd w a (bv l)) (rb : Rd w b (bv p)) :
    Calls Try.prog 30 #[.slice a n c, .slice b m d] w fun e w' => ∃ v, e = .returned v ∧ Own w' w.heap.size 5 1 v (l ++ layB p).length (bv (l ++ layB p)) ∧ Fr [] w w' := by
  subst hl hp
  have hll := layN_length p.length
  have hk8 := kl_le p.length
  have hc := lay_calls w a l.length c l rfl (by omega) ra p.length (by omega)
  have HC := Lib.hid hc
  have HB := Lib.hid rb
  clear hc ra rb
  have hw : IntKind.u64.wrap (p.length : Int) = (p.length : Int) := by rw [IntKind.wrap_u64]; omega
  go_enter Try.func30, Try.ntmps30
  go_wp2_with fail
  refine HC.out.mono ?_
  rintro e w1 ⟨v1, rfl, O1, F1⟩
  have HO1 := Lib.hid O1
  have HF1 := Lib.hid F1
  have hz := F1.size
  clear O1 F1
  dsimp only
  go_wp2_with (refine wpList_appB rfl _ _ 33 33 rfl w.heap.size 5 5 .u8 1 Try.underlying33 Try.underlying33 info_byte v1 _ (bv (l ++ layN p.length)) (by rfl) HO1.out b p.length d (bv p) (by rfl) (HB.out.fr0 HF1.out) (by rw [bv_length]) (bv_one _) (by simp only [maxLen]; omega) (by omega) hz ?_; intro v2 w2 O2 F2 K2 _; have HO2 := Lib.hid O2; have HF2 := Lib.hid (HF1.out.trans F2 (fun k hk hlt => by have := (HO1.out.lt hk).1; omega)); clear O2 F2 K2)
  go_ret
  refine ⟨v2, rfl, ?_, HF2.out⟩
  have h := HO2.out
  rw [← bv_append, List.append_assoc] at h
  rw [show (l ++ layB p).length = l.length + (layN p.length).length + p.length by simp [layB]; omega]
  exact h
theorem n256_nn (l : List Int) (h : Byt l) : n256 l < 256 ^ l.length := n256_lt l h
theorem readN_bnd (l : List Int) (hb : Byt l) (at_ : Int) : 0 ≤ (readN l at_).1 ∧ (readN l at_).1 < 18446744073709551616 := by
  unfold readN
  split
  · exact ⟨by dsimp only; omega, by dsimp only; omega⟩
  · split
    · exact ⟨by dsimp only; omega, by dsimp only; omega⟩
    · rename_i h t hd
      have hm : h ∈ l := List.mem_of_mem_drop (by rw [hd]; exact List.mem_cons_self)
      have h1 := hb h hm
      split
      · exact ⟨h1.1, by omega⟩
      · split
        · exact ⟨by dsimp only; omega, by dsimp only; omega⟩
        · split
          · exact ⟨by dsimp only; omega, by dsimp only; omega⟩
          · split
            · exact ⟨by dsimp only; omega, by dsimp only; omega⟩
            · exact ⟨by dsimp only; omega, by dsimp only; omega⟩
/-- A whole number that is read. -/
def unz (x : Int) : Int := if x % 2 = 1 then -1 - x / 2 else x / 2
def readI (l : List Int) (at_ : Int) : Int × Int × Int := (unz (readN l at_).1, (readN l at_).2.1, (readN l at_).2.2)
theorem unz_I64 (x : Int) (h0 : 0 ≤ x) (h1 : x < 18446744073709551616) : I64 (unz x) := by
  unfold unz I64
  split <;> omega
theorem readI_I64 (l : List Int) (hb : Byt l) (at_ : Int) : I64 (readI l at_).1 := unz_I64 _ (readN_bnd l hb at_).1 (readN_bnd l hb at_).2
def ReadIE (r : Int × Int × Int) (w : World) (e : Ending) (w' : World) : Prop := e = .returned (.tuple #[.int .i64 r.1, .int .i64 r.2.1, .int .i64 r.2.2]) ∧ w = w'
set_option maxRecDepth 100000 in
set_option maxHeartbeats 1000000 in
theorem readInt_calls (w : World) (a : Option Addr) (n c : Nat) (l : List Int) (hl : l.length = n) (hc : n ≤ c) (hn : n ≤ 140737488355328) (hb : Byt l) (ra : Rd w a (bv l)) (at_ : Int) :
    Calls Try.prog 65 #[.slice a n c, .int .i64 at_] w (ReadIE (readI l at_) w) := by
  have hR := sread_calls w a n c l hl hc hn hb ra at_
  have hB := readN_bnd l hb at_
  unfold readI
  generalize readN l at_ = r at *
  obtain ⟨x, nx, er⟩ := r
  have HR := Lib.hid hR
  obtain ⟨h0, h1⟩ := hB
  dsimp only at h0 h1 ⊢
  clear hR
  by_cases hx : x % 2 = 1
  · have e1 : unz x = -1 - x / 2 := by unfold unz; rw [if_pos hx]
    have e2 : bits .xor .i64 (-1) (x / 2) = -1 - x / 2 := i64_compl _ (by omega) (by omega)
    have e3 : wrap64 (IntKind.u64.wrap (x / 2)) = x / 2 := by rw [IntKind.wrap_u64]; unfold wrap64; omega
    have H3 := Lib.hid e3
    clear e3
    have e4 : (x % 2 == 1) = true := by simpa using hx
    have e5 : x.tmod 2 = x % 2 := Int.tmod_eq_emod_of_nonneg h0
    have e6 : x.tdiv 2 = x / 2 := Int.tdiv_eq_ediv_of_nonneg h0
    have HE := Lib.hid e2
    have H1 := Lib.hid e1
    clear e2 e1 h0 h1
    go_enter Try.func65, Try.ntmps65
    go_wp2_with fail
    refine HR.out.mono ?_
    rintro e w' ⟨rfl, rfl⟩
    go_wp2_with fail
    go_ret3
    rw [H1.out, ← HE.out]
    refine ⟨?_, rfl⟩
    rw [H3.out]
    rfl
  · have e1 : unz x = x / 2 := by unfold unz; rw [if_neg hx]
    have e3 : wrap64 (IntKind.u64.wrap (x / 2)) = x / 2 := by rw [IntKind.wrap_u64]; unfold wrap64; omega
    have H3 := Lib.hid e3
    clear e3
    have e4 : (x % 2 == 1) = false := by simpa using hx
    have e5 : x.tmod 2 = x % 2 := Int.tmod_eq_emod_of_nonneg h0
    have e6 : x.tdiv 2 = x / 2 := Int.tdiv_eq_ediv_of_nonneg h0
    have H1 := Lib.hid e1
    clear e1 h0 h1
    go_enter Try.func65, Try.ntmps65
    go_wp2_with fail
    refine HR.out.mono ?_
    rintro e w' ⟨rfl, rfl⟩
    go_wp2_with fail
    go_ret3
    rw [H1.out]
    refine ⟨?_, rfl⟩
    rw [H3.out]
    rfl
end Go.Fur
namespace Go.Fur
open Go Go.RowKit Go.ChangeShapes Go.WideShapes Go.ChangeAt

/-- A reader: the cells of a thing, and what holds of it in a world. -/
structure Rdr (α : Type) where
  enc : α → List Value
  ok : World → α → Prop
/-- What reads as a datum of type t is a thing of the reader's. -/
def Sound {α : Type} (P : Program) (t : TypeId) (r : Rdr α) : Prop :=
  ∀ (H : Type) (encH : TypeId × Value → H) (W : World) (fuel : Nat) (cs : List Value) (x : DataW H × List MemPlace), DataW.trod encH P W 0 (fun _ => true) true fuel t cs = some x →
    (∀ n ∈ x.1.weights P t, n ≤ reachBytes) → ∃ a, cs = r.enc a ∧ r.ok W a
def intR (k : IntKind) : Rdr Int := ⟨fun x => [.int k x], fun _ x => (Lit.int k x).wf = true⟩
theorem intR_sound {P : Program} {t : TypeId} {k : IntKind} (ht : P.underlying t = some (.int k)) : Sound P t (intR k) := fun H encH W fuel cs x h _ => by
  obtain ⟨n, rfl, _, hn⟩ := DataW.trod_int ht h
  exact ⟨n, rfl, hn⟩
def boolR : Rdr Bool := ⟨fun x => [.bool x], fun _ _ => True⟩
theorem boolR_sound {P : Program} {t : TypeId} (ht : P.underlying t = some .bool) : Sound P t boolR := fun H encH W fuel cs x h _ => by
  obtain ⟨n, rfl, _⟩ := DataW.trod_bool ht h
  exact ⟨n, rfl, trivial⟩
/-- A slice's value: where it lies, its capacity, its elements. -/
structure SlV (α : Type) where
  a : Option Addr
  cap : Nat
  xs : List α
def SlV.val {α : Type} (s : SlV α) : Value := .slice s.a s.xs.length s.cap
def sliceR {α : Type} (r : Rdr α) (bytes : Nat) : Rdr (SlV α) :=
  ⟨fun s => [s.val], fun W s => s.xs.length ≤ s.cap ∧ s.cap ≤ maxLen ∧ s.cap * bytes ≤ reachBytes ∧ Rd W s.a (flat r.enc s.xs) ∧ (∀ x ∈ s.xs, r.ok W x) ∧ (s.a = none → s.cap = 0) ∧ (∀ a, s.a = some a → 0 < s.xs.length → a.block < W.heap.size)⟩
theorem weights_mem_all {H : Type} {P : Program} {e : TypeId} : ∀ (ds : List (DataW H)) (d : DataW H), d ∈ ds → ∀ n ∈ d.weights P e, n ∈ DataW.weightsAll P e ds
  | [], _, h, _, _ => by cases h
  | d0 :: ds, d, h, n, hn => by
    simp only [DataW.weightsAll, List.mem_append]
    rcases List.mem_cons.1 h with rfl | h
    · exact .inl hn
    · exact .inr (weights_mem_all ds d h n hn)
theorem list_of_fn {α : Type} {n : Nat} {p : Nat → α → Prop} (h : ∀ i, i < n → ∃ x, p i x) : ∃ l : List α, l.length = n ∧ ∀ i x, l[i]? = some x → p i x := by
  induction n with
  | zero => exact ⟨[], rfl, fun i x h => by simp at h⟩
  | succ n ih =>
    obtain ⟨l, hl, hp⟩ := ih (fun i hi => h i (by omega))
    obtain ⟨x, hx⟩ := h n (by omega)
    refine ⟨l ++ [x], by simp [hl], fun i y hy => ?_⟩
    rcases Nat.lt_trichotomy i l.length with hi | hi | hi
    · rw [List.getElem?_append_left hi] at hy
      exact hp i y hy
    · subst hi
      rw [List.getElem?_append_right (Nat.le_refl _)] at hy
      simp at hy
      subst hy
      rw [hl]
      exact hx
    · rw [List.getElem?_eq_none (by simp; omega)] at hy
      cases hy
theorem flat_getElem {α : Type} (f : α → List Value) (k : Nat) (xs : List α) (h : ∀ x ∈ xs, (f x).length = k) (j : Nat) (v : Value) (hv : (flat f xs)[j]? = some v) : ∃ i q x, j = i * k + q ∧ xs[i]? = some x ∧ (f x)[q]? = some v := by
  induction xs generalizing j with
  | nil => simp [flat] at hv
  | cons y ys ih =>
    rw [flat_cons] at hv
    have hy := h y (by simp)
    by_cases hj : j < k
    · rw [List.getElem?_append_left (by omega)] at hv
      exact ⟨0, j, y, by omega, rfl, hv⟩
    · rw [List.getElem?_append_right (by omega), hy] at hv
      obtain ⟨i, q, x, h1, h2, h3⟩ := ih (fun z hz => h z (by simp [hz])) (j - k) hv
      exact ⟨i + 1, q, x, by rw [Nat.succ_mul]; omega, by simpa using h2, h3⟩
theorem sliceR_sound {α : Type} {P : Program} {t e : TypeId} {r : Rdr α} {k bytes : Nat} (ht : P.underlying t = some (.slice e)) (hk : P.cellsOf e = k) (h0 : 0 < k) (hb : P.bytesOf e = bytes) (hr : Sound P e r) : Sound P t (sliceR r bytes) := by
  subst hk; subst hb
  intro H encH W fuel cs x h hw
  rcases Deep.open_slice ht h with ⟨rfl, _⟩ | ⟨a, len, cap, m, n, D, Pl, rfl, _, hl, hm, hmm, rfl, hx⟩
  · exact ⟨⟨none, 0, []⟩, rfl, Nat.le_refl _, Nat.zero_le _, by simp, Rd.nil _ _, by simp, fun _ => rfl, fun _ h => by cases h⟩
  · simp only [if_true] at hmm
    subst hmm
    have hws : ∀ n ∈ ((List.range len).map D ++ (List.range (m - len)).map fun j => D (len + j)).length * P.bytesOf e :: (DataW.weightsAll P e ((List.range len).map D) ++ DataW.weightsAll P e ((List.range (m - len)).map fun j => D (len + j))), n ≤ reachBytes := by
      simpa [DataW.weights, ht] using hw
    have hlist : ∃ l : List α, l.length = len ∧ ∀ i y, l[i]? = some y → W.cells? 0 (a.add (i * P.cellsOf e)) (P.cellsOf e) = some (r.enc y) ∧ r.ok W y := by
      refine list_of_fn fun i hi => ?_
      obtain ⟨cs', h1, h2⟩ := hx i (by omega)
      obtain ⟨y, rfl, hy⟩ := hr H encH W n cs' _ h2 (fun n hn => hws n (by
        simp only [List.mem_cons, List.mem_append]
        exact .inr (.inl (weights_mem_all _ (D i) (List.mem_map.2 ⟨i, List.mem_range.2 hi, rfl⟩) n hn))))
      exact ⟨y, h1, hy⟩
    obtain ⟨l, hll, hp⟩ := hlist
    have hcap : m * P.bytesOf e ≤ reachBytes := by
      have := hws _ (by simp only [List.mem_cons]; exact .inl rfl)
      simp only [List.length_append, List.length_map, List.length_range] at this
      rwa [show len + (m - len) = m from by omega] at this
    have hrd : ∀ i y, l[i]? = some y → (r.enc y).length = P.cellsOf e ∧ ∀ q v, (r.enc y)[q]? = some v → W.cell? (a.add (i * P.cellsOf e + q)) = some v := fun i y hy => by
      obtain ⟨_, h2, h3⟩ := World.cells?_some (hp i y hy).1
      refine ⟨h2, fun q v hv => ?_⟩
      have hq := (List.getElem?_eq_some_iff.1 hv).1
      have := h3 q (by omega)
      rwa [Deep.add_add, hv] at this
    have hspot : l ≠ [] → a.spot = none ∧ a.block < W.heap.size := fun hne => by
      obtain ⟨y, ys, rfl⟩ := List.exists_cons_of_ne_nil hne
      obtain ⟨h1, h2⟩ := hrd 0 y rfl
      have h3 := h2 0 ((r.enc y)[0]'(by omega)) (List.getElem?_eq_getElem (by omega))
      have h4 : W.cell? a = some ((r.enc y)[0]'(by omega)) := by simpa [Addr.add] using h3
      exact ⟨by simpa using World.cell?_spot h4, World.block_lt_of_cell? W _ h4⟩
    refine ⟨⟨some a, m, l⟩, by simp [sliceR, SlV.val, hll], by simpa [hll] using hl, hm, hcap, ?_, fun y hy => ?_, fun h => (by cases h), fun a' ha' hpos => ?_⟩
    · intro hne
      have hl0 : l ≠ [] := fun h0 => hne (by subst h0; rfl)
      obtain ⟨b, o, s⟩ := a
      obtain ⟨hs, _⟩ := hspot hl0
      simp only at hs
      subst hs
      refine ⟨b, o, rfl, fun j v hv => ?_⟩
      obtain ⟨i, q, y, rfl, hy, hq⟩ := flat_getElem r.enc (P.cellsOf e) l (fun y hy => by
        obtain ⟨i, hi⟩ := List.getElem?_of_mem hy
        exact (hrd i y hi).1) j v hv
      have := (hrd i y hy).2 q v hq
      rwa [Addr.add_mid] at this
    · obtain ⟨i, hi⟩ := List.getElem?_of_mem hy
      exact (hp i y hi).2
    · have : a' = a := by injection ha' with h; exact h.symm
      subst this
      exact (hspot (fun h0 => by subst h0; simp at hpos)).2

/-- The fields of a struct, one behind the other. -/
def SoundF {β : Type} (P : Program) (fs : List Field) (off n : Nat) (r : Rdr β) : Prop :=
  ∀ (H : Type) (encH : TypeId × Value → H) (W : World) (fuel : Nat) (cs : List Value) (xs : List (DataW H × List MemPlace)), cs.length = off + n →
    xs.length = fs.length → (∀ (i : Nat) (f : Field), fs[i]? = some f → DataW.trod encH P W 0 (fun _ => true) true fuel f.type ((cs.drop f.offset).take (P.cellsOf f.type)) = xs[i]?) →
    (∀ n ∈ DataW.weightsEach P (fs.map (·.type)) (xs.map (·.1)), n ≤ reachBytes) → ∃ y, cs.drop off = r.enc y ∧ r.ok W y
def nilR : Rdr Unit := ⟨fun _ => [], fun _ _ => True⟩
def consR {α β : Type} (r : Rdr α) (s : Rdr β) : Rdr (α × β) := ⟨fun x => r.enc x.1 ++ s.enc x.2, fun W x => r.ok W x.1 ∧ s.ok W x.2⟩
theorem nilF {P : Program} (off : Nat) : SoundF P [] off 0 nilR := fun H encH W fuel cs xs hl _ _ _ => ⟨(), List.drop_eq_nil_of_le (by omega), trivial⟩
theorem consF {α β : Type} {P : Program} {f : Field} {fs : List Field} {off k n : Nat} {r : Rdr α} {s : Rdr β} (ho : f.offset = off) (hk : P.cellsOf f.type = k) (hr : Sound P f.type r) (hs : SoundF P fs (off + k) n s) : SoundF P (f :: fs) off (k + n) (consR r s) := by
  subst ho; subst hk
  intro H encH W fuel cs xs hl hxl hx hw
  match xs, hxl with
  | x :: xs, hxl =>
    have h1 := hx 0 f rfl
    simp only [List.getElem?_cons_zero] at h1
    simp only [List.map_cons, DataW.weightsEach, List.mem_append] at hw
    obtain ⟨a, ha, hoa⟩ := hr H encH W fuel _ x h1 (fun n hn => hw n (.inl hn))
    obtain ⟨y, hy, hoy⟩ := hs H encH W fuel cs xs (by omega) (by simpa using hxl) (fun i g hg => by simpa using hx (i + 1) g (by simpa using hg)) (fun n hn => hw n (.inr hn))
    refine ⟨(a, y), ?_, hoa, hoy⟩
    simp only [consR]
    rw [← ha, ← hy, ← List.drop_drop, List.take_append_drop]
theorem structR {β : Type} {P : Program} {t : TypeId} {fs : List Field} {n : Nat} {r : Rdr β} (ht : P.underlying t = some (.struct fs.toArray)) (hn : P.cellsOf t = n) (hs : SoundF P fs 0 n r) : Sound P t r := fun H encH W fuel cs x h hw => by
  obtain ⟨xs, m, _, rfl, hlen, hxl, hx⟩ := DataW.trod_struct ht h
  obtain ⟨y, hy, hoy⟩ := hs H encH W m cs xs (by omega) (by simpa using hxl) (fun i f hf => hx i f (by simpa using hf)) (by simpa [DataW.weights, ht] using hw)
  exact ⟨y, by simpa using hy, hoy⟩

/-- An argument, by its place. -/
theorem read_arg {α : Type} {P : Program} {t : TypeId} {r : Rdr α} (hr : Sound P t r) {H : Type} {encH : TypeId × Value → H} {W : World} {v : Value} {d : DataW H} {ps : List MemPlace} (h : DataW.Trod encH P W 0 (fun _ => true) true t v d ps)
    {ts : List TypeId} {ds : List (DataW H)} (hw : (DataW.weightsEach P ts ds).all (· ≤ reachBytes) = true) {j : Nat} (ht : ts[j]? = some t) (hd : ds[j]? = some d) : ∃ a, v.cells.toList = r.enc a ∧ r.ok W a := by
  obtain ⟨fuel, hf⟩ := h
  exact hr H encH W fuel _ _ hf (fun n hn => by
    have := List.all_eq_true.1 hw n (DataW.weights_mem_each ht hd n hn)
    simpa using this)
theorem one_of_cells {v u : Value} (hv : v.cells = #[v]) (h : v.cells.toList = [u]) : v = u := by
  rw [hv] at h
  simpa using h
theorem agg_of_cells {cs : Array Value} {l : List Value} (h : (Value.agg cs).cells.toList = l) : Value.agg cs = .agg l.toArray := by
  subst h
  simp [Value.cells]
end Go.Fur
namespace Go.Fur
open Go Go.RowKit
set_option linter.unusedVariables false
/-- Things that lie in a row, k cells each. -/
structure RowA {τ : Type} (EL : World → (Nat → Prop) → List Value → τ → Prop) (k : Nat) (w : World) (X : Nat → Prop) (a : Option Addr) (l : List τ) (css : List (List Value)) : Prop where
  rd : RdA w X a (flat id css)
  len : css.length = l.length
  each : ∀ (i : Nat) cs t, css[i]? = some cs → l[i]? = some t → cs.length = k ∧ EL w X cs t
theorem RowA.all {τ : Type} {EL : World → (Nat → Prop) → List Value → τ → Prop} {k : Nat} {w : World} {X : Nat → Prop} {a : Option Addr} {l : List τ} {css : List (List Value)} (h : RowA EL k w X a l css) : ∀ cs ∈ css, (id cs).length = k := fun cs hm => by
  obtain ⟨i, hi⟩ := List.getElem?_of_mem hm
  have hlt := (List.getElem?_eq_some_iff.1 hi).1
  exact (h.each i cs _ hi (List.getElem?_eq_getElem (by rw [← h.len]; exact hlt))).1
theorem RowA.get {τ : Type} {EL : World → (Nat → Prop) → List Value → τ → Prop} {k : Nat} {w : World} {X : Nat → Prop} {a : Option Addr} {l : List τ} {css : List (List Value)} (h : RowA EL k w X a l css) (hk : 0 < k) {i : Nat} {t : τ} (ht : l[i]? = some t) :
    ∃ b o cs, a = some ⟨b, o, none⟩ ∧ b < w.heap.size ∧ ¬ X b ∧ cs.length = k ∧ EL w X cs t ∧ w.rangeAt b (o + i * k) cs := by
  have hlt := (List.getElem?_eq_some_iff.1 ht).1
  have hlt2 : i < css.length := by rw [h.len]; exact hlt
  have hcs : css[i]? = some (css[i]'hlt2) := List.getElem?_eq_getElem hlt2
  obtain ⟨h1, h2⟩ := h.each i _ t hcs ht
  have hfl := flat_length id k css h.all
  have hpc := flat_piece id k css h.all i _ hcs
  obtain ⟨b, o, ha, hx, hb, hr⟩ := h.rd (fun h0 => by
    rw [h0] at hfl
    have : 0 < css.length * k := Nat.mul_pos (by rw [h.len]; omega) hk
    simp at hfl
    omega)
  refine ⟨b, o, _, ha, hb, hx, h1, h2, fun j v hv => ?_⟩
  rw [Nat.add_assoc]
  refine hr (i * k + j) v ?_
  have hv' : (((flat id css).drop (i * k)).take k)[j]? = some v := by rw [hpc]; exact hv
  rw [List.getElem?_take] at hv'
  split at hv'
  · rwa [List.getElem?_drop] at hv'
  · cases hv'
theorem RowA.nil {τ : Type} (EL : World → (Nat → Prop) → List Value → τ → Prop) (k : Nat) (w : World) (X : Nat → Prop) (a : Option Addr) : RowA EL k w X a [] [] := ⟨RdA.nil _ _ _, rfl, by simp⟩
theorem RowA.step {τ : Type} {EL : World → (Nat → Prop) → List Value → τ → Prop} {k : Nat} {S : List Nat} {w w' : World} {X X' : Nat → Prop} {a : Option Addr} {l : List τ} {css : List (List Value)} (h : RowA EL k w X a l css) (f : Fr S w w') (hS : ∀ k ∈ S, X k ∨ w.heap.size ≤ k) (hX : ∀ k, X' k → X k ∨ w.heap.size ≤ k)
    (hEL : ∀ cs t, EL w X cs t → EL w' X' cs t) : RowA EL k w' X' a l css :=
  ⟨h.rd.step f hS hX, h.len, fun i cs t h1 h2 => ⟨(h.each i cs t h1 h2).1, hEL _ _ (h.each i cs t h1 h2).2⟩⟩
theorem flat_dropA {α : Type} (f : α → List Value) (k : Nat) : ∀ (l : List α), (∀ x ∈ l, (f x).length = k) → ∀ n, flat f (l.drop n) = (flat f l).drop (n * k)
  | [], _, n => by simp [flat]
  | x :: l, h, 0 => by simp [flat]
  | x :: l, h, n + 1 => by
    have ih := flat_dropA f k l (fun y hy => h y (by simp [hy])) n
    have hx := h x (by simp)
    unfold flat at ih ⊢
    rw [List.drop_succ_cons, List.flatMap_cons, ih, Nat.succ_mul, Nat.add_comm, ← List.drop_drop, List.drop_left' hx]
/-- The first n of them. -/
theorem RowA.takeN {τ : Type} {EL : World → (Nat → Prop) → List Value → τ → Prop} {k : Nat} {w : World} {X : Nat → Prop} {a : Option Addr} {l : List τ} {css : List (List Value)} (h : RowA EL k w X a l css) (n : Nat) : RowA EL k w X a (l.take n) (css.take n) := by
  refine ⟨?_, by simp [h.len], fun i cs t h1 h2 => ?_⟩
  · rw [← flat_take id k css h.all]
    intro hn
    obtain ⟨b, o, ha, hx, hb, hr⟩ := h.rd (fun h0 => hn (by rw [h0]; simp))
    refine ⟨b, o, ha, hx, hb, fun j v hv => ?_⟩
    rw [List.getElem?_take] at hv
    split at hv
    · exact hr j v hv
    · cases hv
  · rw [List.getElem?_take] at h1 h2
    by_cases hi : i < n
    · rw [if_pos hi] at h1 h2
      exact h.each i cs t h1 h2
    · rw [if_neg hi] at h1
      cases h1
end Go.Fur
namespace Go.Fur
open Go Go.RowKit Go.Proofs
set_option linter.unusedVariables false
set_option linter.unusedSimpArgs false

/-! ### Crash -/
def undo (d : D) (k : Nat) : List (List Int) := (d.loose.drop k).foldr (fun x now => now.set x.1 x.2.1) d.now
theorem undo_length (d : D) (k : Nat) : (undo d k).length = d.now.length := by
  unfold undo
  induction d.loose.drop k with
  | nil => rfl
  | cons x r ih => simpa using ih
theorem undo_all (d : D) (k : Nat) (h : d.loose.length ≤ k) : undo d k = d.now := by
  unfold undo
  rw [List.drop_eq_nil_of_le h]
  rfl
theorem undo_step (d : D) (k : Nat) (x : Nat × List Int × List Int) (h : d.loose[k]? = some x) : undo d k = (undo d (k + 1)).set x.1 x.2.1 := by
  unfold undo
  obtain ⟨hk, hx⟩ := List.getElem?_eq_some_iff.1 h
  rw [List.drop_eq_getElem_cons hk, hx]
  rfl
theorem undo_wf {d : D} (h : d.wf) (k : Nat) : ∀ b ∈ undo d k, b.length = 64 := by
  unfold undo
  have hs : ∀ x ∈ d.loose.drop k, x.2.1.length = 64 := fun x hx => (h.loose x (List.mem_of_mem_drop hx)).2.1
  generalize d.loose.drop k = r at hs ⊢
  induction r with
  | nil => exact h.now
  | cons x r ih =>
    intro b hb
    rcases List.mem_or_eq_of_mem_set hb with hb | rfl
    · exact ih (fun y hy => hs y (by simp [hy])) b hb
    · exact hs x (by simp)
theorem undo_D {d : D} (h : d.wf) (k : Nat) : D.wf ⟨undo d k, d.loose⟩ :=
  ⟨undo_wf h k, fun x hx => by simpa only [undo_length] using h.loose x hx, by simpa only [undo_length] using h.pos, by simpa only [undo_length] using h.max, h.few⟩
def CrashRel (w : World) (base p bb : Nat) (lv : Value) (d : D) (keep : Int) (i : Value) (wr : World) : Prop :=
  ∃ k : Nat, k ≤ d.loose.length ∧ (keep ≤ k ∨ k = d.loose.length) ∧ i = .int .i64 ((k : Int) - 1) ∧ DiskAt wr base p bb lv ⟨undo d k, d.loose⟩ ∧ Fr [bb] w wr
set_option maxRecDepth 100000 in
set_option maxHeartbeats 1000000 in
theorem crash_calls {w : World} {base p bb : Nat} {lv : Value} {d : D} (h : DiskAt w base p bb lv d) (keep : Int) (hk : 0 ≤ keep) :
    Calls Try.prog 13 #[.pointer (some ⟨p, 0, none⟩), .int .i64 keep] w fun e w' => e = .returned (.int .i64 0) ∧
      DiskAt w' base p bb (.slice none 0 0) ⟨undo d keep.toNat, []⟩ ∧ Fr [p, bb] w w' := by
  have h0 : ¬ keep < 0 := by omega
  obtain ⟨la, lc, hlv, hlc, hlm, hlr⟩ := h.hl.form
  have hfew := h.wf.few
  have hlm' : lc ≤ 9223372036854775807 := by simpa only [maxLen] using hlm
  have h2 : w.cell? ⟨p, 1, none⟩ = some (.slice la d.loose.length lc) := by rw [← hlv]; exact h.hp.cellAt (i := 1) rfl
  have HLV := Lib.hid hlv
  have HH := Lib.hid h
  clear hlv h
  go_enter Try.func13, Try.ntmps13
  go_wp2_with fail
  go_loopw [5] (fun i wr => CrashRel w base p bb lv d keep i wr) (fun i _ => (intOf i + 1 - keep).toNat)
  case atStart => exact ⟨d.loose.length, Nat.le_refl _, .inr rfl, rfl, by rw [undo_all d _ (Nat.le_refl _)]; exact HH.out, Fr.refl _ _⟩
  case round =>
    obtain ⟨k, hk1, hk2, rfl, hD, hF⟩ := hrel
    by_cases hlt : keep ≤ (k : Int) - 1
    · obtain ⟨j, rfl⟩ : ∃ j, k = j + 1 := ⟨k - 1, by omega⟩
      obtain ⟨x, hx⟩ : ∃ x, d.loose[j]? = some x := ⟨d.loose[j]'(by omega), List.getElem?_eq_getElem (by omega)⟩
      obtain ⟨hxn, hxw, hxi⟩ := HH.out.wf.loose x (List.mem_of_getElem? hx)
      have hl0 := HH.out.wf
      obtain ⟨hpb, hap⟩ := hD.apart
      have e : (((j + 1 : Nat)) : Int) - 1 = (j : Int) := by omega
      rw [e] at hlt ⊢
      obtain ⟨g, cap, cur, hg1, hg2, hg3, hg4, hg5, hg6, hg7⟩ := hD.hl.blk (by simp only []; omega)
      simp only [] at hg1 hg4 hg7
      obtain ⟨hla, hcap⟩ : la = some ⟨g, 0, none⟩ ∧ lc = cap := by
        have := HLV.out.symm.trans hg1
        simp only [Value.slice.injEq] at this
        exact ⟨this.1, this.2.2⟩
      subst hla hcap
      have hrng : wr.rangeAt g (j * 129) (lv3 x) := by
        have h5 : ((flat lv3 d.loose).drop (j * 129)).take 129 = lv3 x := flat_piece lv3 129 d.loose hl0.lvlen j x hx
        intro q v hq
        have h6 : (flat lv3 d.loose)[j * 129 + q]? = some v := by
          rw [← h5] at hq
          rw [List.getElem?_take] at hq
          split at hq
          · rwa [List.getElem?_drop] at hq
          · cases hq
        rw [← hg7, List.getElem?_take] at h6
        split at h6
        · exact hg3.cellAt h6
        · cases h6
      have c0 : ∀ w', Fr [] wr w' → w'.cell? ⟨p, 0, none⟩ = some (.slice (some ⟨bb, 0, none⟩) d.now.length d.now.length) := fun w' f => by
        have := (hD.hp.fr f (by simp)).cellAt (i := 0) rfl
        simpa only [undo_length] using this
      have c1 : ∀ w', Fr [] wr w' → w'.cell? ⟨p, 1, none⟩ = some (.slice (some ⟨g, 0, none⟩) d.loose.length lc) := fun w' f => by
        rw [← HLV.out]
        exact (hD.hp.fr f (by simp)).cellAt (i := 1) rfl
      have c2 : ∀ w', Fr [] wr w' → w'.cell? ⟨g, j * 129, none⟩ = some (.int .i64 x.1) := fun w' f => by
        have := rangeAt_fr hrng f (by simp) 0 _ rfl
        simpa using this
      have c3 : ∀ w', Fr [] wr w' → w'.rangeAt g (j * 129 + 1) (bv x.2.1) := fun w' f q v hq => by
        have h7 : (lv3 x)[q + 1]? = some v := by
          simp only [lv3, List.getElem?_cons_succ]
          rw [List.getElem?_append_left (List.getElem?_eq_some_iff.1 hq).1]
          exact hq
        have := rangeAt_fr hrng f (by simp) (q + 1) v h7
        rwa [show j * 129 + 1 + q = j * 129 + (q + 1) from by omega]
      have i0 : (0 : Int) ≤ (j : Int) := by omega
      have i1 : (j : Int) < (d.loose.length : Int) := by omega
      have i2 : (0 : Int) ≤ (x.1 : Int) := by omega
      have i3 : (x.1 : Int) < (d.now.length : Int) := by omega
      have hbl : (bv x.2.1).length = 64 := by rw [bv_length]; exact hxw
      have HX := Lib.hid hx
      have HD := Lib.hid hD
      have HB := Lib.hid hbl
      have HF := Lib.hid hF
      clear hx hD hg7 hg1 hg6 hg3 hap hrng hxw hxi hxn hl0 hbl e hF
      go_wp2_with fail
      refine wp_region_ord (Fr [] wr) [0,1,2,3,4,5,6,7,8,9,10,11,12,13,14,15,16,17,18,19,20,21] [21] [21] [3, 7, 11, 15, 19] mixed (by kernel_rfl) ?_
      have hS : Fr [] wr wr.drew := (Fr.refl _ _).drew
      simp only [pairs, pickN]
      repeat (first | (refine wpO_free ?_ (by rfl) (by rfl) (fun w' => ?_) ?_; rotate_left; (go_simp; rfl); simp only [Act.put, List.setIfInBounds_toArray, List.set_cons_zero, List.set_cons_succ]) | (refine wpO_take ?_ hS (by rfl) (by rfl) (fun w' hw' => ?_) ?_; rotate_left; (go_simp; rfl); simp only [Act.put, List.setIfInBounds_toArray, List.set_cons_zero, List.set_cons_succ]) | (refine wpO_pass (by rfl) ?_; simp only [Act.put, List.setIfInBounds_toArray, List.set_cons_zero, List.set_cons_succ]))
      refine wpO_takeY _ hS (by rfl) (yieldsIf_load_mid (by rfl) 81 _ rfl g (j * 129 + 1) rfl (bv x.2.1) _ c3 Try.underlying81 rfl (by rw [HB.out]; exact size_block)) ?_
      simp only [Act.put, List.setIfInBounds_toArray, List.set_cons_zero, List.set_cons_succ]
      repeat (first | (refine wpO_free ?_ (by rfl) (by rfl) (fun w' => ?_) ?_; rotate_left; (go_simp; rfl); simp only [Act.put, List.setIfInBounds_toArray, List.set_cons_zero, List.set_cons_succ]) | (refine wpO_take ?_ hS (by rfl) (by rfl) (fun w' hw' => ?_) ?_; rotate_left; (go_simp; rfl); simp only [Act.put, List.setIfInBounds_toArray, List.set_cons_zero, List.set_cons_succ]) | (refine wpO_pass (by rfl) ?_; simp only [Act.put, List.setIfInBounds_toArray, List.set_cons_zero, List.set_cons_succ]))
      refine wpO_eff (by rfl) ?_
      refine wpList_storeB rfl 81 _ _ rfl bb (x.1 * 64) (bv x.2.1) (by rfl) (by rfl) 81 _ HD.out.hb.drew ?_ (by rw [HB.out]; exact size_block) (bv_one _) ?_
      · have := (HH.out.wf.loose x (List.mem_of_getElem? HX.out)).1
        rw [HB.out, flat_length bv 64 _ (fun b hb => by rw [bv_length]; exact undo_wf HH.out.wf _ b hb), undo_length]
        omega
      intro w6 B6 F6 S6
      rw [flat_splice bv 64 _ (fun b hb => by rw [bv_length]; exact undo_wf HH.out.wf _ b hb) x.1 (by rw [undo_length]; exact (HH.out.wf.loose x (List.mem_of_getElem? HX.out)).1) x.2.1 HB.out, ← undo_step d j x HX.out] at B6
      refine effQ_skip (by decide) (wpO_nil ?_)
      simp only [Act.put, List.setIfInBounds_toArray, List.set_cons_zero, List.set_cons_succ]
      have hD3 : CrashRel w base p bb lv d keep (.int .i64 ((j : Int) - 1)) w6 := by
        have hap := HD.out.apart
        refine ⟨j, by omega, .inl hlt, rfl, ⟨?_, B6, ?_, undo_D HH.out.wf j, HD.out.bp, HD.out.bbb⟩, ?_⟩
        · have := HD.out.hp.drew.fr F6 (by simpa using hap.1)
          simpa only [undo_length] using this
        · exact (HD.out.hl.fr hS (by simp)).fr F6 (fun k hk => by simpa using (hap.2 k hk).2)
        · exact (HF.out.drew).trans1 F6
      have H3 := Lib.hid hD3
      clear hD3 c0 c1 c2 c3 B6
      go_wp2_with fail
      go_roundw
      case rel => exact H3.out
      case measure => simp [intOf]; omega
    · have hkk : undo d k = undo d keep.toNat := by
        rcases hk2 with hk2 | hk2
        · have : keep.toNat = k := by omega
          rw [this]
        · rw [undo_all d k (by omega), undo_all d _ (by omega)]
      have hD2 := hD.calm
      rw [hkk] at hD2
      have c1 : wr.cell? ⟨p, 1, none⟩ = some lv := hD.hp.cellAt (i := 1) rfl
      have c2 := hD.hp.frozen 1
      have H2 := Lib.hid hD2
      have HF := Lib.hid hF
      clear hkk hD hF hD2
      go_wp2_with fail
      go_ret
      refine ⟨rfl, H2.out, ?_⟩
      exact (HF.out.mono (S' := [p, bb]) (fun k hk _ => by simp at hk ⊢; simp [hk])).setCell (.inl (by simp)) _

theorem DiskAt.fr {S : List Nat} {w w' : World} {base p bb : Nat} {lv : Value} {d : D} (h : DiskAt w base p bb lv d) (f : Fr S w w') (hp : p ∉ S) (hb : bb ∉ S) (hl : ∀ k ∈ ob lv, k ∉ S) : DiskAt w' base p bb lv d :=
  ⟨h.hp.fr f hp, h.hb.fr f hb, h.hl.fr f hl, h.wf, h.bp, h.bbb⟩
theorem DiskAt.fr0 {w w' : World} {base p bb : Nat} {lv : Value} {d : D} (h : DiskAt w base p bb lv d) (f : Fr [] w w') : DiskAt w' base p bb lv d := h.fr f (by simp) (by simp) (by simp)
theorem DiskAt.wbase {w : World} {base base' p bb : Nat} {lv : Value} {d : D} (h : DiskAt w base p bb lv d) (hb : base' ≤ base) : DiskAt w base' p bb lv d :=
  ⟨h.hp, h.hb, h.hl.base hb, h.wf, Nat.le_trans hb h.bp, Nat.le_trans hb h.bbb⟩
/-- All that a disk may write lies from 'base' on. -/
theorem DiskAt.ge {w : World} {base p bb : Nat} {lv : Value} {d : D} (h : DiskAt w base p bb lv d) : ∀ k ∈ p :: bb :: ob lv, base ≤ k := fun k hk => by
  simp only [List.mem_cons] at hk
  rcases hk with rfl | rfl | hk
  · exact h.bp
  · exact h.bbb
  · exact (h.hl.lt hk).1
theorem DiskAt.lt {w : World} {base p bb : Nat} {lv : Value} {d : D} (h : DiskAt w base p bb lv d) : ∀ k ∈ p :: bb :: ob lv, k < w.heap.size := fun k hk => by
  simp only [List.mem_cons] at hk
  rcases hk with rfl | rfl | hk
  · exact h.hp.lt
  · exact h.hb.lt
  · exact (h.hl.lt hk).2
end Go.Fur
namespace Go.Fur
open Go Go.RowKit Go.Proofs
set_option linter.unusedVariables false
set_option linter.unusedSimpArgs false
theorem mixed15 : Try.prog.follows .mixedOrders = true := by kernel_rfl
def fourP (a b c d : Int) : Int := a + 256 * b + 65536 * c + 16777216 * d
/-- A store in the block q: its disk p, generation, life, tail, place, count, safe ones. -/
def sto (p : Nat) (gen life : Int) (tail : Value) (at_ count safe : Int) : List Value := [.pointer (some ⟨p, 0, none⟩), .int .u32 gen, .int .u32 life, tail, .int .i64 at_, .int .i64 count, .int .i64 safe]
/-- How many blocks a half has. -/
def halfP (d : D) : Nat := (d.now.length - 2) / 2
set_option maxRecDepth 100000 in
set_option maxHeartbeats 1000000 in
theorem half_calls {w : World} {base p bb q : Nat} {lv tail : Value} {d : D} {gen life at_ count safe : Int} (h : DiskAt w base p bb lv d) (hq : Blk w q 103 (sto p gen life tail at_ count safe)) :
    Calls Try.prog 54 #[.pointer (some ⟨q, 0, none⟩)] w fun e w' => e = .returned (.int .i64 (halfP d)) ∧ w = w' := by
  have c0 : w.cell? ⟨q, 0, none⟩ = some (.pointer (some ⟨p, 0, none⟩)) := hq.cellAt rfl
  have HB := Lib.hid (blocks_calls h)
  have hm := h.wf.max
  have hp := h.wf.pos
  unfold halfP
  generalize d.now.length = n at *
  clear h hq
  go_enter Try.func54, Try.ntmps54
  go_wp2_with fail
  refine HB.out.mono ?_
  rintro e w1 ⟨rfl, rfl⟩
  dsimp only
  by_cases h2 : 2 ≤ n
  · have e1 : (n : Int) - 2 = ((n - 2 : Nat) : Int) := by omega
    have e2 : (((n - 2 : Nat) : Int) / 2) = (((n - 2) / 2 : Nat) : Int) := by omega
    have HE := Lib.hid e2
    clear e2
    go_wp2_with fail
    go_ret
    exact ⟨by rw [← HE.out]; rfl, rfl⟩
  · have e1 : n = 1 := by omega
    subst e1
    go_wp2_with fail
    go_ret
    exact ⟨rfl, rfl⟩
/-- Where a block of a generation's half stands. -/
def placeP (d : D) (gen : Nat) (i : Nat) : Nat := 2 + gen % 2 * halfP d + i
set_option maxRecDepth 100000 in
set_option maxHeartbeats 1000000 in
theorem place_calls {w : World} {base p bb q : Nat} {lv tail : Value} {d : D} {gen : Nat} {life at_ count safe : Int} (h : DiskAt w base p bb lv d) (hq : Blk w q 103 (sto p gen life tail at_ count safe)) (i : Nat) (hi : i ≤ 65536) :
    Calls Try.prog 64 #[.pointer (some ⟨q, 0, none⟩), .int .i64 i] w fun e w' => e = .returned (.int .i64 (placeP d gen i)) ∧ ∃ k, w' = w.drewN k := by
  have c1 : w.cell? ⟨q, 1, none⟩ = some (.int .u32 gen) := hq.cellAt rfl
  have HH := Lib.hid (fun (W : World) (f : Fr [] w W) => (half_calls (h.fr0 f) (hq.fr f (by simp))).mono (R' := fun e w' => e = .returned (.int .i64 (halfP d)) ∧ w' = W) (fun e w' hh => ⟨hh.1, hh.2.symm⟩))
  have HQ := Lib.hid hq
  have hm := h.wf.max
  have hh : halfP d ≤ 32768 := by unfold halfP; omega
  unfold placeP
  generalize halfP d = n at *
  have hg : gen % 2 = 0 ∨ gen % 2 = 1 := by omega
  have e1 : ((gen : Int) % 2) = ((gen % 2 : Nat) : Int) := by omega
  generalize gen % 2 = m at *
  clear h hq hm
  go_enter Try.func64, Try.ntmps64
  go_wp2_with fail
  go_quiet ((refine Calls.quiet_of_same (HH.out _ ?_); exact (Fr.refl _ _).drewN _))
  go_wp2_with fail
  go_ret
  have e2 : wrap64 (wrap64 (2 + wrap64 ((m : Int) * (n : Int))) + (i : Int)) = ((2 + m * n + i : Nat) : Int) := by
    rcases hg with rfl | rfl <;> (unfold RowKit.wrap64; simp; omega)
  exact ⟨by rw [← e2]; rfl, nq, rfl⟩
theorem or_low (a b k : Nat) (ha : a < 2 ^ k) (ha2 : a < 4294967296) (hb : 2 ^ k * b < 4294967296) : bits .or .u32 (a : Int) ((2 ^ k * b : Nat) : Int) = ((a + 2 ^ k * b : Nat) : Int) := by
  have h2 := Nat.two_pow_add_eq_or_of_lt (i := k) (b := a) ha b
  rw [u32_or_nat a _ ha2 hb, Nat.or_comm, ← h2, Nat.add_comm]
set_option maxRecDepth 100000 in
set_option maxHeartbeats 1000000 in
theorem four_calls {w : World} {a : Option Addr} {n c : Nat} {x0 x1 x2 x3 : Nat} {l : List Int} (h : Rd w a (bv ((x0 : Int) :: x1 :: x2 :: x3 :: l))) (hn : 4 ≤ n) (hc : n ≤ c) (hm : c ≤ maxLen) (h0 : x0 < 256) (h1 : x1 < 256) (h2 : x2 < 256) (h3 : x3 < 256) :
    Calls Try.prog 49 #[.slice a n c] w fun e w' => e = .returned (.int .u32 ((x0 + 256 * x1 + 65536 * x2 + 16777216 * x3 : Nat) : Int)) ∧ ∃ k, w' = w.drewN k := by
  obtain ⟨b, o, rfl, hr⟩ := h (by simp [bv])
  have c0 : w.cell? ⟨b, o, none⟩ = some (.int .u8 x0) := hr 0 _ rfl
  have c1 : w.cell? ⟨b, o + 1, none⟩ = some (.int .u8 x1) := hr 1 _ rfl
  have c2 : w.cell? ⟨b, o + 2, none⟩ = some (.int .u8 x2) := hr 2 _ rfl
  have c3 : w.cell? ⟨b, o + 3, none⟩ = some (.int .u8 x3) := hr 3 _ rfl
  have n0 : (0 : Int) < (n : Int) := by omega
  have n1 : (1 : Int) < (n : Int) := by omega
  have n2 : (2 : Int) < (n : Int) := by omega
  have n3 : (3 : Int) < (n : Int) := by omega
  clear h hr
  go_enter Try.func49, Try.ntmps49
  go_wp2_with fail
  go_quiet (fail)
  go_wp2_with fail
  go_ret
  have q1 : bits .or .u32 (x0 : Int) ((x1 : Int) * 256) = ((x0 + 256 * x1 : Nat) : Int) := by
    have h := or_low x0 x1 8 (by omega) (by omega) (by omega)
    rwa [show ((2 ^ 8 * x1 : Nat) : Int) = (x1 : Int) * 256 by omega, show x0 + 2 ^ 8 * x1 = x0 + 256 * x1 by omega] at h
  have q2 : bits .or .u32 ((x0 + 256 * x1 : Nat) : Int) ((x2 : Int) * 65536) = ((x0 + 256 * x1 + 65536 * x2 : Nat) : Int) := by
    have h := or_low (x0 + 256 * x1) x2 16 (by omega) (by omega) (by omega)
    rwa [show ((2 ^ 16 * x2 : Nat) : Int) = (x2 : Int) * 65536 by omega, show x0 + 256 * x1 + 2 ^ 16 * x2 = x0 + 256 * x1 + 65536 * x2 by omega] at h
  have q3 : bits .or .u32 ((x0 + 256 * x1 + 65536 * x2 : Nat) : Int) ((x3 : Int) * 16777216) = ((x0 + 256 * x1 + 65536 * x2 + 16777216 * x3 : Nat) : Int) := by
    have h := or_low (x0 + 256 * x1 + 65536 * x2) x3 24 (by omega) (by omega) (by omega)
    rwa [show ((2 ^ 24 * x3 : Nat) : Int) = (x3 : Int) * 16777216 by omega, show x0 + 256 * x1 + 65536 * x2 + 2 ^ 24 * x3 = x0 + 256 * x1 + 65536 * x2 + 16777216 * x3 by omega] at h
  refine ⟨?_, nq, rfl⟩
  rw [← q3, ← q2, ← q1]
  rfl
end Go.Fur
namespace Go.Fur
open Go Go.RowKit Go.Proofs
set_option linter.unusedVariables false
set_option linter.unusedSimpArgs false
theorem syncN_calls (w : World) : Calls Try.prog 31 #[.pointer none] w fun e w' => e = .returned (.int .i64 17) ∧ w = w' := by
  go_enter Try.func31, Try.ntmps31
  go_wp2_with fail
  go_ret
  exact ⟨rfl, rfl⟩
theorem appendN_calls (w : World) (v : Value) : Calls Try.prog 42 #[.pointer none, v] w fun e w' => e = .returned (.int .i64 17) ∧ w = w' := by
  go_enter Try.func42, Try.ntmps42
  go_wp2_with fail
  go_ret
  exact ⟨rfl, rfl⟩
theorem checkpointN_calls (w : World) (v : Value) : Calls Try.prog 40 #[.pointer none, v] w fun e w' => e = .returned (.int .i64 17) ∧ w = w' := by
  go_enter Try.func40, Try.ntmps40
  go_wp2_with fail
  go_ret
  exact ⟨rfl, rfl⟩
theorem syncS_calls {w : World} {base p bb q : Nat} {lv tail : Value} {d : D} {gen life at_ count safe : Int} (h : DiskAt w base p bb lv d) (hq : Blk w q 103 (sto p gen life tail at_ count safe)) :
    Calls Try.prog 31 #[.pointer (some ⟨q, 0, none⟩)] w fun e w' => e = .returned (.int .i64 0) ∧ DiskAt w' base p bb (.slice none 0 0) { d with loose := [] } ∧ Blk w' q 103 (sto p gen life tail at_ count count) ∧ Fr [p, q] w w' := by
  have c0 : w.cell? ⟨q, 0, none⟩ = some (.pointer (some ⟨p, 0, none⟩)) := hq.cellAt rfl
  have HS := Lib.hid (sync_calls h)
  have hqp : q ≠ p := hq.ne h.hp (by decide)
  have hqb : q ≠ bb := hq.ne h.hb (by decide)
  have HQ := Lib.hid hq
  clear h hq
  go_enter Try.func31, Try.ntmps31
  go_wp2_with fail
  refine HS.out.mono ?_
  rintro e w1 ⟨rfl, D1, F1⟩
  have HD1 := Lib.hid D1
  have HF1 := Lib.hid F1
  have hq1 := HQ.out.fr F1 (by simpa using hqp)
  have c5 : w1.cell? ⟨q, 5, none⟩ = some (.int .i64 count) := hq1.cellAt rfl
  have HQ1 := Lib.hid hq1
  clear D1 F1 hq1 c0
  dsimp only
  go_wp2_with (refine wpList_store1 rfl 3 _ _ rfl q 6 (.int .i64 count) (by rfl) (by rfl) rfl 103 _ HQ1.out (by simp [sto]) (by kernel_rfl) rfl ?_; intro w2 B2 F2 S2; have HB2 := Lib.hid (show Blk w2 q 103 (sto p gen life tail at_ count count) from B2); have HF2 := Lib.hid F2; clear B2 F2 S2)
  go_ret
  exact ⟨rfl, HD1.out.fr HF2.out (by simpa using hqp.symm) (by simpa using hqb.symm) (by simp [ob, Value.ownBlock]), HB2.out, (HF1.out.mono (fun k hk _ => by simp at hk; simp [hk])).trans HF2.out (fun k hk _ => by simp at hk; simp [hk])⟩
end Go.Fur
namespace Go.Fur
open Go Go.RowKit Go.Proofs
set_option linter.unusedVariables false
set_option linter.unusedSimpArgs false
/-- The number that four bytes write at the place i. -/
def four4 (b : List Int) (i : Nat) : Nat := match b.drop i with
  | x0 :: x1 :: x2 :: x3 :: _ => x0.toNat + 256 * x1.toNat + 65536 * x2.toNat + 16777216 * x3.toNat
  | _ => 0
theorem four4_calls {w : World} {g n c i : Nat} {b : List Int} (h : Rd w (some ⟨g, i, none⟩) (bv (b.drop i))) (hb : Byt b) (hl : i + 4 ≤ b.length) (hn : 4 ≤ n) (hc : n ≤ c) (hm : c ≤ maxLen) :
    Calls Try.prog 49 #[.slice (some ⟨g, i, none⟩) n c] w fun e w' => e = .returned (.int .u32 (four4 b i)) ∧ ∃ k, w' = w.drewN k := by
  have hlen : (b.drop i).length = b.length - i := List.length_drop
  have hby := hb.drop i
  unfold four4
  match hd : b.drop i with
  | x0 :: x1 :: x2 :: x3 :: l =>
    rw [hd] at h hby
    have h0 := hby x0 (by simp)
    have h1 := hby x1 (by simp)
    have h2 := hby x2 (by simp)
    have h3 := hby x3 (by simp)
    obtain ⟨y0, rfl⟩ := Int.eq_ofNat_of_zero_le h0.1
    obtain ⟨y1, rfl⟩ := Int.eq_ofNat_of_zero_le h1.1
    obtain ⟨y2, rfl⟩ := Int.eq_ofNat_of_zero_le h2.1
    obtain ⟨y3, rfl⟩ := Int.eq_ofNat_of_zero_le h3.1
    have hq := four_calls (w := w) (n := n) (c := c) h hn hc hm (by omega) (by omega) (by omega) (by omega)
    simpa using hq
  | [] => rw [hd] at hlen; simp at hlen; omega
  | [_] => rw [hd] at hlen; simp at hlen; omega
  | [_, _] => rw [hd] at hlen; simp at hlen; omega
  | [_, _, _] => rw [hd] at hlen; simp at hlen; omega
theorem four4_lt {b : List Int} (hb : Byt b) (i : Nat) : four4 b i < 4294967296 := by
  have hby := hb.drop i
  unfold four4
  split
  · rename_i x0 x1 x2 x3 l hd
    rw [hd] at hby
    have h0 := hby x0 (by simp)
    have h1 := hby x1 (by simp)
    have h2 := hby x2 (by simp)
    have h3 := hby x3 (by simp)
    omega
  · omega
def eldG (m : Nat) (b : List Int) : Nat := if 0 < four4 b 0 then max m (four4 b 4) else m
def eldL (d : D) (k : Nat) : Nat := ((d.now.drop 2).take k).foldl eldG 0
theorem eldL_succ (d : D) (k : Nat) (b : List Int) (h : d.now[2 + k]? = some b) : eldL d (k + 1) = eldG (eldL d k) b := by
  unfold eldL
  have h1 : (d.now.drop 2)[k]? = some b := by rw [List.getElem?_drop]; exact h
  rw [List.take_add_one, h1, List.foldl_append]
  rfl
theorem eldL_lt {d : D} (hy : ∀ b ∈ d.now, Byt b) : ∀ k, eldL d k < 4294967296
  | 0 => by simp [eldL]
  | k + 1 => by
    have ih := eldL_lt hy k
    cases hb : d.now[2 + k]? with
    | none =>
      have e : eldL d (k + 1) = eldL d k := by
        have hl := List.getElem?_eq_none_iff.1 hb
        unfold eldL
        rw [List.take_of_length_le (by simp; omega), List.take_of_length_le (by simp; omega)]
      omega
    | some b =>
      rw [eldL_succ d k b hb]
      have := four4_lt (hy b (List.mem_of_getElem? hb)) 4
      unfold eldG
      split
      · exact Nat.max_lt.2 ⟨ih, this⟩
      · exact ih
def EldR (w : World) (d : D) (m i : Value) (wr : World) : Prop := ∃ k : Nat, k ≤ d.now.length - 2 ∧ i = .int .i64 ((2 + k : Nat) : Int) ∧ m = .int .u32 (eldL d k) ∧ Fr [] w wr
set_option maxRecDepth 100000 in
set_option maxHeartbeats 2000000 in
theorem eldest_calls {w : World} {base p bb : Nat} {lv : Value} {d : D} (h : DiskAt w base p bb lv d) (hby : ∀ b ∈ d.now, Byt b) :
    Calls Try.prog 46 #[.pointer (some ⟨p, 0, none⟩)] w fun e w' => e = .returned (.int .u32 ((((eldL d (d.now.length - 2) : Nat) : Int) + 1) % 4294967296)) ∧ Fr [] w w' := by
  have HB := Lib.hid (fun (W : World) (f : Fr [] w W) => blocks_calls (h.fr0 f))
  have HRd := Lib.hid (fun (W : World) (f : Fr [] w W) (n : Nat) (b : List Int) (hn : d.now[n]? = some b) => read_calls (h.fr0 f) n b hn)
  have HY := Lib.hid hby
  have HW := Lib.hid h.wf
  have hm := h.wf.max
  clear h hby
  go_enter Try.func46, Try.ntmps46
  go_wp2_with fail
  go_loopw [3, 4] (fun m i wr => EldR w d m i wr) (fun _ i _ => d.now.length - (intOf i).toNat)
  case atStart => exact ⟨0, Nat.zero_le _, rfl, rfl, Fr.refl _ _⟩
  case round =>
    obtain ⟨k, hk, rfl, rfl, hF⟩ := hrel
    obtain ⟨q, hq⟩ : ∃ q, 2 + k = q := ⟨_, rfl⟩
    rw [hq]
    have HQ := Lib.hid hq
    have hq1 : 2 ≤ q := by omega
    clear hq
    have HF := Lib.hid hF
    clear hF
    go_wp2_with fail
    refine (HB.out wr HF.out).mono ?_
    rintro e w1 ⟨rfl, rfl⟩
    dsimp only
    by_cases hlt : q < d.now.length
    · have hb : (q : Int) < (d.now.length : Int) := by omega
      obtain ⟨b, hnb⟩ : ∃ b, d.now[q]? = some b := ⟨d.now[q], List.getElem?_eq_getElem hlt⟩
      have HNB := Lib.hid hnb
      clear hnb
      go_wp2_with fail
      refine (HRd.out wr HF.out q b HNB.out).mono ?_
      rintro e w2 ⟨g, cap, rfl, O2, F2⟩
      obtain ⟨hr2, hc2, hm2⟩ := O2.rdS (X := fun _ => False) (fun _ _ h => h)
      have hlen : b.length = 64 := HW.out.now b (List.mem_of_getElem? HNB.out)
      have hyb := HY.out b (List.mem_of_getElem? HNB.out)
      have HR2 := Lib.hid hr2.rd
      have HL := Lib.hid hlen
      have HYB := Lib.hid hyb
      have HF2 := Lib.hid F2
      have HM := Lib.hid hm2
      have hm3 : cap ≤ 9223372036854775807 := by unfold maxLen at hm2; exact hm2
      have hlt0 := four4_lt hyb 0
      have hlt4 := four4_lt hyb 4
      have HS : Hid (eldL d (k + 1) = eldG (eldL d k) b) := Lib.hid (eldL_succ d k b (by rw [HQ.out]; exact HNB.out))
      clear O2 F2 hlen hyb hr2 hm2
      dsimp only
      go_wp2_with fail
      refine (four4_calls (i := 0) (b := b) (by simpa using HR2.out) HYB.out (by rw [HL.out]; omega) (by omega) hc2 HM.out).mono ?_
      rintro e w3 ⟨rfl, nk, rfl⟩
      dsimp only
      have hel : eldL d k < 4294967296 := eldL_lt HY.out k
      have hF3 : Fr [] w w2 := HF.out.trans0 HF2.out
      have HF3 := Lib.hid hF3
      clear hF3
      by_cases hg : 0 < four4 b 0
      · have hg' : (0 : Int) < (four4 b 0 : Int) := by omega
        go_wp2_with fail
        refine (four4_calls (i := 4) (b := b) ?_ HYB.out (by rw [HL.out]; omega) (by omega) (by omega) (by have := HM.out; omega)).mono ?_
        · have h5 := HR2.out
          obtain ⟨b1, o1, he, hr⟩ := h5 (fun h0 => by have := congrArg List.length h0; rw [bv_length, HL.out] at this; simp at this)
          simp only [Option.some.injEq, Addr.mk.injEq] at he
          obtain ⟨rfl, rfl, _⟩ := he
          refine Rd.mk (fun j v hv => ?_)
          rw [bv_drop, List.getElem?_drop] at hv
          have := hr (4 + j) v hv
          rwa [Nat.zero_add] at this
        rintro e w4 ⟨rfl, nk2, rfl⟩
        dsimp only
        go_wp2_with fail
        go_roundw
        case rel =>
          refine ⟨k + 1, by have := HQ.out; omega, by rw [show 2 + (k + 1) = q + 1 from by have := HQ.out; omega]; go_num, ?_, HF3.out.drewN _⟩
          rw [HS.out]
          unfold eldG
          rw [if_pos hg]
          split
          · rw [Nat.max_eq_right (by omega)]
          · rw [Nat.max_eq_left (by omega)]
        case measure => simp [intOf]; omega
      · have hg' : ¬ (0 : Int) < (four4 b 0 : Int) := by omega
        go_wp2_with fail
        go_roundw
        case rel =>
          refine ⟨k + 1, by have := HQ.out; omega, by rw [show 2 + (k + 1) = q + 1 from by have := HQ.out; omega]; go_num, ?_, HF3.out.drewN _⟩
          rw [HS.out]
          unfold eldG
          rw [if_neg hg]
        case measure => simp [intOf]; omega
    · have hb : ¬ (q : Int) < (d.now.length : Int) := by omega
      go_wp2_with fail
      go_ret
      have e1 : k = d.now.length - 2 := by have := HQ.out; omega
      subst e1
      exact ⟨rfl, HF.out⟩
end Go.Fur
namespace Go.Fur
open Go Go.RowKit Go.Proofs
set_option linter.unusedVariables false
set_option linter.unusedSimpArgs false

/-- All bytes of a disk are bytes. -/
structure D.byt (d : D) : Prop where
  now : ∀ b ∈ d.now, Byt b
  was : ∀ x ∈ d.loose, Byt x.2.1
def D.new (n : Nat) : D := ⟨List.replicate n (zeros 64), []⟩
theorem D.new_byt (n : Nat) : (D.new n).byt := ⟨fun b hb => by rw [List.eq_of_mem_replicate hb]; exact Byt.zeros 64, by simp [D.new]⟩
/-- Write(n, l): the errno, and the disk behind it. -/
def D.write (d : D) (n : Int) (l : List Int) : Int × D :=
  if n < 0 ∨ d.now.length ≤ n then (8, d) else if 64 < l.length then (3, d) else (0, ⟨d.now.set n.toNat (pad l), d.loose ++ [(n.toNat, d.now.getD n.toNat [], pad l)]⟩)
/-- Read(n): the bytes, and the errno. -/
def D.read (d : D) (n : Int) : List Int × Int := if n < 0 ∨ d.now.length ≤ n then ([], 8) else (d.now.getD n.toNat [], 0)
def D.calm (d : D) : D := { d with loose := [] }
/-- Crash(keep). -/
def D.crash (d : D) (keep : Int) : Int × D := if keep < 0 then (1, d) else (0, ⟨undo d keep.toNat, []⟩)
theorem Byt.pad {l : List Int} (h : Byt l) : Byt (pad l) := h.append (Byt.zeros _)
theorem D.byt.write {d : D} (h : d.byt) {n : Int} {l : List Int} (hl : Byt l) : (d.write n l).2.byt := by
  unfold D.write
  split
  · exact h
  · split
    · exact h
    · rename_i h1 h2
      refine ⟨fun b hb => ?_, fun x hx => ?_⟩
      · rcases List.mem_or_eq_of_mem_set hb with hb | rfl
        · exact h.now b hb
        · exact hl.pad
      · simp only [List.mem_append, List.mem_singleton] at hx
        rcases hx with hx | rfl
        · exact h.was x hx
        · have hlt : n.toNat < d.now.length := by omega
          show Byt (d.now.getD n.toNat [])
          rw [List.getD_eq_getElem?_getD, List.getElem?_eq_getElem hlt]
          exact h.now _ (List.getElem_mem hlt)
theorem undo_byt {d : D} (h : d.byt) (k : Nat) : ∀ b ∈ undo d k, Byt b := by
  unfold undo
  have hs : ∀ x ∈ d.loose.drop k, Byt x.2.1 := fun x hx => h.was x (List.mem_of_mem_drop hx)
  generalize d.loose.drop k = r at hs ⊢
  induction r with
  | nil => exact h.now
  | cons x r ih =>
    intro b hb
    rcases List.mem_or_eq_of_mem_set hb with hb | rfl
    · exact ih (fun y hy => hs y (by simp [hy])) b hb
    · exact hs x (by simp)
theorem D.byt.crash {d : D} (h : d.byt) (k : Int) : (d.crash k).2.byt := by
  unfold D.crash
  split
  · exact h
  · exact ⟨undo_byt h _, by simp⟩
theorem D.byt.calm {d : D} (h : d.byt) : d.calm.byt := ⟨h.now, by simp [D.calm]⟩
theorem D.byt.read {d : D} (h : d.byt) (n : Int) : Byt (d.read n).1 := by
  unfold D.read
  split
  · exact Byt.nil
  · rename_i h1
    have hlt : n.toNat < d.now.length := by omega
    show Byt (d.now.getD n.toNat [])
    rw [List.getD_eq_getElem?_getD, List.getElem?_eq_getElem hlt]
    exact h.now _ (List.getElem_mem hlt)
theorem write_length (d : D) (n : Int) (l : List Int) : (d.write n l).2.now.length = d.now.length := by
  unfold D.write
  split
  · rfl
  · split
    · rfl
    · simp
theorem write_loose (d : D) (n : Int) (l : List Int) : (d.write n l).2.loose.length ≤ d.loose.length + 1 := by
  unfold D.write
  split
  · exact Nat.le_succ _
  · split
    · exact Nat.le_succ _
    · simp
theorem write_all {w : World} {base p bb : Nat} {lv : Value} {d : D} (h : DiskAt w base p bb lv d) (hbase : base ≤ w.heap.size) (n : Int) (a : Option Addr) (m c : Nat) (l : List Int) (hl : l.length = m) (hr : Rd w a (bv l)) (hfew : d.loose.length < 1000000000) :
    Calls Try.prog 57 #[.pointer (some ⟨p, 0, none⟩), .int .i64 n, .slice a m c] w fun e w' => ∃ lv', e = .returned (.int .i64 (d.write n l).1) ∧
      DiskAt w' base p bb lv' (d.write n l).2 ∧ Fr (p :: bb :: ob lv) w w' ∧ (∀ k ∈ ob lv', k ∈ ob lv ∨ w.heap.size ≤ k) := by
  subst hl
  by_cases h1 : n < 0 ∨ d.now.length ≤ n
  · have e : d.write n l = (8, d) := by unfold D.write; rw [if_pos h1]
    rw [e]
    exact (write_none h n _ h1).mono fun e w' ⟨he, hw⟩ => hw ▸ ⟨lv, he, h, Fr.refl _ _, fun k hk => .inl hk⟩
  · obtain ⟨j, rfl⟩ := Int.eq_ofNat_of_zero_le (show 0 ≤ n by omega)
    have hj : j < d.now.length := by omega
    by_cases h2 : 64 < l.length
    · have e : d.write j l = (3, d) := by unfold D.write; rw [if_neg h1, if_pos h2]
      rw [e]
      exact (write_long h j hj a l.length c h2).mono fun e w' ⟨he, hw⟩ => hw ▸ ⟨lv, he, h, Fr.refl _ _, fun k hk => .inl hk⟩
    · have hg : d.now[j]? = some (d.now.getD j []) := by rw [List.getD_eq_getElem?_getD, List.getElem?_eq_getElem hj]; rfl
      have e : d.write j l = (0, ⟨d.now.set j (pad l), d.loose ++ [(j, d.now.getD j [], pad l)]⟩) := by unfold D.write; rw [if_neg h1, if_neg h2]; rfl
      rw [e]
      exact write_calls h hbase j _ hg a c l (by omega) hr hfew
theorem read_all {w : World} {base p bb : Nat} {lv : Value} {d : D} (h : DiskAt w base p bb lv d) (n : Int) :
    Calls Try.prog 62 #[.pointer (some ⟨p, 0, none⟩), .int .i64 n] w fun e w' => ∃ v, e = .returned (.tuple #[v, .int .i64 (d.read n).2]) ∧ Own w' w.heap.size 5 1 v (d.read n).1.length (bv (d.read n).1) ∧ Fr [] w w' := by
  by_cases h1 : n < 0 ∨ d.now.length ≤ n
  · have e : d.read n = ([], 8) := by unfold D.read; rw [if_pos h1]
    rw [e]
    exact (read_none h n h1).mono fun e w' ⟨he, hw⟩ => hw ▸ ⟨_, he, Own.nil _ _ _ _, Fr.refl _ _⟩
  · obtain ⟨j, rfl⟩ := Int.eq_ofNat_of_zero_le (show 0 ≤ n by omega)
    have hj : j < d.now.length := by omega
    have hg : d.now[j]? = some (d.now.getD j []) := by rw [List.getD_eq_getElem?_getD, List.getElem?_eq_getElem hj]; rfl
    have e : d.read j = (d.now.getD j [], 0) := by unfold D.read; rw [if_neg h1]; rfl
    rw [e]
    have hl : (d.now.getD j []).length = 64 := h.wf.now _ (List.mem_of_getElem? hg)
    rw [hl]
    exact (read_calls h j _ hg).mono fun e w' ⟨g, cap, he, ho, hf⟩ => ⟨_, he, ho, hf⟩
theorem crash_all {w : World} {base p bb : Nat} {lv : Value} {d : D} (h : DiskAt w base p bb lv d) (keep : Int) :
    Calls Try.prog 13 #[.pointer (some ⟨p, 0, none⟩), .int .i64 keep] w fun e w' => ∃ lv', e = .returned (.int .i64 (d.crash keep).1) ∧
      DiskAt w' base p bb lv' (d.crash keep).2 ∧ Fr [p, bb] w w' ∧ (∀ k ∈ ob lv', k ∈ ob lv) := by
  unfold D.crash
  by_cases hk : keep < 0
  · rw [if_pos hk]
    exact (crash_arg w p keep hk).mono fun e w' ⟨he, hw⟩ => hw ▸ ⟨lv, he, h, Fr.refl _ _, fun k hk => hk⟩
  · rw [if_neg hk]
    exact (crash_calls h keep (by omega)).mono fun e w' ⟨he, hd, hf⟩ => ⟨_, he, hd, hf, fun k hk => by simp at hk⟩
theorem new_all (w : World) (n : Nat) (h1 : 1 ≤ n) (h2 : n ≤ 65536) : Calls Try.prog 26 #[.int .i64 n] w fun e w' => ∃ p bb, e = .returned (.tuple #[.pointer (some ⟨p, 0, none⟩), .int .i64 0]) ∧
    DiskAt w' w.heap.size p bb (.slice none 0 0) (D.new n) ∧ Fr [] w w' :=
  (new_calls w n h1 h2).mono fun e w' ⟨he, hd, hf⟩ => ⟨_, _, he, hd, hf⟩
theorem read_errno (d d' : D) (m : Int) (h : d.now.length = d'.now.length) : (d.read m).2 = (d'.read m).2 := by
  unfold D.read
  rw [h]
  split <;> rfl
theorem read_write_other (d : D) (n m : Int) (l : List Int) (h : n ≠ m) : (d.write n l).2.read m = d.read m := by
  unfold D.read
  rw [write_length]
  by_cases h1 : m < 0 ∨ d.now.length ≤ m
  · rw [if_pos h1, if_pos h1]
  · rw [if_neg h1, if_neg h1]
    unfold D.write
    split
    · rfl
    · split
      · rfl
      · rename_i h2 h3
        simp only
        rw [List.getD_eq_getElem?_getD, List.getD_eq_getElem?_getD, List.getElem?_set_ne (by omega)]
theorem read_write_same (d : D) (n : Int) (l : List Int) (h : (d.write n l).1 = 0) : (d.write n l).2.read n = (pad l, 0) ∧ l.length ≤ 64 := by
  unfold D.write at h ⊢
  split
  · rename_i h1
    rw [if_pos h1] at h
    simp at h
  · rename_i h1
    rw [if_neg h1] at h
    split
    · rename_i h2
      rw [if_pos h2] at h
      simp at h
    · rename_i h2
      refine ⟨?_, by omega⟩
      unfold D.read
      rw [if_neg (by simpa using h1)]
      simp only
      rw [List.getD_eq_getElem?_getD, List.getElem?_set_self (by omega)]
      rfl
theorem pad_take (l : List Int) : (pad l).take l.length = l := by
  unfold pad
  rw [List.take_append_of_le_length (Nat.le_refl _), List.take_length]
end Go.Fur
