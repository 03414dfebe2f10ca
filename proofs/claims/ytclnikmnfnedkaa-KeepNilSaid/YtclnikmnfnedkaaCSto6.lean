/- furlongref01.Bytes and Twin: contracts. -/
import Derived.Test.YtclnikmnfnedkaaCDiskAll
import Derived.Test.YtclnikmnfnedkaaRows
import Derived.Test.YtclnikmnfnedkaaCStrip1
import Derived.Test.YtclnikmnfnedkaaCArr
import Derived.RangeFuncNested
import Derived.RangeFuncRecord
import Derived.RangeFuncBound
import Derived.RangeFuncLeaves
import Derived.Shelf.Abstract
import Derived.OwnWalkIn
import Derived.TacticsInMore
import Derived.LoopNIn
import Derived.LoopIn
namespace Go.Fur
open Go Go.RowKit Go.Proofs
set_option linter.unusedVariables false
set_option linter.unusedSimpArgs false

theorem string_rd {P : Program} {w : World} {src dst e : TypeId} {a : Option Addr} {c : Nat} {xs : List Int} (hs : P.underlying src = some (.slice e)) (he : P.underlying e = some (.int .u8)) (hd : P.underlying dst = some .string)
    (h : Rd w a (bv xs)) (n : Nat) (hn : xs.length = n) : (convert src dst (.slice a n c)).run P w = .ok (.string (strOfNums xs)) w := by
  by_cases h0 : xs = []
  · subst h0
    have hn0 : n = 0 := by simpa using hn.symm
    subst hn0
    cases a with
    | none => exact run_convert_bytes_nil w src e hs he 0 c dst hd
    | some ad =>
      have hl : (loadCells ad 0).run P w = .ok (([] : List Int).map (Value.int .u8)).toArray w := by
        simpa using run_loadCells_list (P := P) w ad [] (fun j v hj => by simp at hj)
      rw [run_convert_bytes_string w src dst e _ 0 c hs he hd, run_bytesToString w ad 0 c [] hl]
      rfl
  · obtain ⟨b, o, rfl, hr⟩ := h (fun hb => h0 (bv_inj (hb.trans bv_nil.symm)))
    refine run_convert_bytes_arg w src e hs he b o n c xs hn (fun i hi => ?_) dst hd
    refine hr i _ ?_
    rw [bv_get, List.getD_eq_getElem?_getD, List.getElem?_eq_getElem (by omega)]
    rfl
theorem strOfNums_inj {x y : List Int} (hx : Byt x) (hy : Byt y) (h : strOfNums x = strOfNums y) : x = y := by
  have h1 := congrArg (fun s : ByteArray => s.data.toList) h
  simp only [strOfNums_data] at h1
  apply List.ext_getElem?
  intro i
  have h2 := congrArg (fun l : List UInt8 => l[i]?) h1
  simp only [List.getElem?_map] at h2
  cases hxi : x[i]? with
  | none =>
    rw [hxi] at h2
    cases hyi : y[i]? with
    | none => rfl
    | some b => rw [hyi] at h2; cases h2
  | some a =>
    rw [hxi] at h2
    cases hyi : y[i]? with
    | none => rw [hyi] at h2; cases h2
    | some b =>
      rw [hyi] at h2
      have ha := hx a (List.mem_of_getElem? hxi)
      have hb := hy b (List.mem_of_getElem? hyi)
      have h3 : (UInt8.ofNat a.toNat).toNat = (UInt8.ofNat b.toNat).toNat := by
        simp only [Option.map_some, Option.some.injEq] at h2
        rw [h2]
      simp only [UInt8.toNat_ofNat'] at h3
      congr 1
      omega
theorem bytes_calls (w : World) (a b : Option Addr) (ca cb n m : Nat) (x y : List Int) (hn : x.length = n) (hm : y.length = m) (hx : Byt x) (hy : Byt y) (ra : Rd w a (bv x)) (rb : Rd w b (bv y)) :
    Calls Try.prog 20 #[.slice a n ca, .slice b m cb] w fun e w' => e = .returned (.bool (decide (x = y))) ∧ w = w' := by
  have h1 : ∀ c, (convert 33 9 (.slice a n c)).run Try.prog w = .ok (.string (strOfNums x)) w := fun c => string_rd Try.underlying33 Try.underlying5 Try.underlying9 ra n hn
  have h2 : ∀ c, (convert 33 9 (.slice b m c)).run Try.prog w = .ok (.string (strOfNums y)) w := fun c => string_rd Try.underlying33 Try.underlying5 Try.underlying9 rb m hm
  have h3 : (strOfNums x = strOfNums y) ↔ x = y := ⟨strOfNums_inj hx hy, fun h => by rw [h]⟩
  have H3 := Lib.hid h3
  clear h3 hx hy hn hm ra rb
  go_enter Try.func20, Try.ntmps20
  go_wp2
  go_ret
  refine ⟨?_, rfl⟩
  have h4 : ((strOfNums x).toList == (strOfNums y).toList) = decide (x = y) := by
    rw [Bool.eq_iff_iff]
    simp only [beq_iff_eq, decide_eq_true_eq, ByteArray.toList_eq]
    rw [← H3.out]
    constructor
    · intro h
      have h5 : (strOfNums x).data = (strOfNums y).data := by rw [← Array.toList_inj]; exact h
      exact ByteArray.ext h5
    · intro h
      rw [h]
  show Ending.returned (.bool _) = _
  rw [h4]
theorem src_rd {P : Program} {w : World} {a : Option Addr} {l : List Int} (h : Rd w a (bv l)) {n c : Nat} {tx e' : TypeId} (hk : P.underlying tx = some (.slice e')) (hl : l.length = n) : Src P 1 tx (.slice a n c) n (bv l) w :=
  h.src hk (by rw [bv_length, hl, Nat.mul_one]) (bv_one l)
theorem Own.empty (w : World) (e : TypeId) (size : Nat) : Own (w.alloc (.cells #[] e)) w.heap.size e size (.slice (some ⟨w.heap.size, 0, none⟩) 0 0) 0 [] := by
  have := Own.of_blk (base := w.heap.size) (size := size) (n := 0) (cap := 0) (Nat.le_refl _) (Blk.new w e []) (Nat.le_refl _) (Nat.zero_le _) (by simp)
  simpa using this
theorem twin_calls (w : World) (a : Option Addr) (c n : Nat) (l : List Int) (hn : l.length = n) (hl : n ≤ 140737488355328) (ra : Rd w a (bv l)) :
    Calls Try.prog 25 #[.slice a n c] w fun e w' => ∃ v, e = .returned v ∧ Own w' w.heap.size 5 1 v n (bv l) ∧ Fr [] w w' := by
  have hb : ∀ W : World, (Instr.buildSlice 33 0 #[]).run Try.prog W = .ok (.slice (some ⟨W.heap.size, 0, none⟩) 0 0) (W.alloc (.cells #[] 5)) := fun W => by kernel_rfl
  have hle : w.heap.size ≤ (w.alloc (.cells #[] 5)).heap.size := by simp
  have hmx : 0 + n ≤ maxLen := by simp only [maxLen]; omega
  have ra2 := src_rd (P := Try.prog) (n := n) (c := c) (ra.fr0 ((Fr.refl [] w).alloc (.cells #[] 5))) Try.underlying33 hn
  have HR := Lib.hid ra2
  clear ra2 hn
  go_enter Try.func25, Try.ntmps25
  obtain ⟨i0, hi0, hz0, hz1, hz2⟩ := info_parts (P := Try.prog) (e := 5) (z := .int .u8 0) (size := 1) (bytes := 1) (by kernel_rfl)
  go_wp2_with (refine wpList_app rfl _ _ 33 33 rfl w.heap.size 5 i0 _ 1 1 Try.underlying33 hi0 hz0 hz1 hz2 rfl Nat.one_pos _ 0 [] (by rfl) (Own.empty w 5 1) _ n (bv l) (by rfl) HR.out hmx (by omega) hle ?_; intro v1 w1 O1 F1 K1 _)
  refine bodyPost_ret (results_tmp rfl _ _ _) rfl ⟨v1, rfl, ?_, ?_⟩
  · simpa using O1
  · exact ((Fr.refl [] w).alloc _).trans F1 (fun k hk hlt => by simp at hk; omega)
end Go.Fur
namespace Go.Fur
open Go Go.RowKit
theorem Rd.takeN {w : World} {a : Option Addr} {cs : List Value} (h : Rd w a cs) (n : Nat) : Rd w a (cs.take n) := fun hn => by
  obtain ⟨b, o, ha, hr⟩ := h (fun h0 => hn (by rw [h0]; simp))
  refine ⟨b, o, ha, fun j v hv => ?_⟩
  rw [List.getElem?_take] at hv
  split at hv
  · exact hr j v hv
  · cases hv
theorem Rd.dropN {w : World} {b o : Nat} {cs : List Value} (h : Rd w (some ⟨b, o, none⟩) cs) (n : Nat) : Rd w (some ⟨b, o + n, none⟩) (cs.drop n) := fun hn => by
  obtain ⟨b', o', ha, hr⟩ := h (fun h0 => hn (by rw [h0]; simp))
  simp only [Option.some.injEq, Addr.mk.injEq] at ha
  obtain ⟨rfl, rfl, _⟩ := ha
  refine ⟨_, _, rfl, fun j v hv => ?_⟩
  rw [List.getElem?_drop] at hv
  have := hr (n + j) v hv
  rwa [← Nat.add_assoc] at this
section
variable {P : Program}
theorem slice_lh {t e : TypeId} (hu : P.underlying t = some (.slice e)) (hs : (P.info? e).map (·.size) = some 1) (a : Option Addr) (n c lo hi : Nat) (l h : Int) (hl : l = (lo : Nat)) (hh : h = (hi : Nat)) (h1 : lo ≤ hi) (h2 : hi ≤ c) :
    ∃ a', (∀ (W : World) (cs : List Value), Rd W a cs → Rd W a' ((cs.drop lo).take (hi - lo))) ∧ ∀ W : World, (Instr.slice t (.slice a n c) (some (.int .i64 l)) (some (.int .i64 h)) none).run P W = .ok (.slice a' (hi - lo) (c - lo)) W := by
  have he : P.elem t = e := by simp [Program.elem, hu]
  have hsz : ∀ W, (sizeOf e).run P W = .ok 1 W := fun W => by
    cases hq : P.info? e with
    | none => simp [hq] at hs
    | some i =>
      have hsz : i.size = 1 := by simpa [hq] using hs
      simp [sizeOf, typeInfo, hq, hsz]
  refine ⟨if c = lo then a else a.map (·.add (lo * 1)), fun W cs hr => ?_, fun W => ?_⟩
  · by_cases hc : c = lo
    · rw [if_pos hc, show hi - lo = 0 by omega, List.take_zero]
      exact Rd.nil _ _
    · rw [if_neg hc]
      intro hn
      obtain ⟨b, o, rfl, hr'⟩ := hr (fun h0 => hn (by rw [h0]; simp))
      have := ((Rd.mk hr').dropN lo).takeN (hi - lo) hn
      rw [Nat.mul_one, Option.map_some, Addr.add_mid]
      exact this
  · rw [run_slice_lh W t a n c (by rw [hu, he]) .i64 .i64 l h (by omega) (by omega) (by omega), he, hsz]
    simp only [Result.andThen, sliced]
    rw [show l.toNat = lo by omega, show h.toNat = hi by omega]
theorem slice_l {t e : TypeId} (hu : P.underlying t = some (.slice e)) (hs : (P.info? e).map (·.size) = some 1) (a : Option Addr) (n c lo : Nat) (l : Int) (hl : l = (lo : Nat)) (h1 : lo ≤ n) (h2 : n ≤ c) :
    ∃ a', (∀ (W : World) (cs : List Value), Rd W a cs → cs.length = n → Rd W a' (cs.drop lo)) ∧ ∀ W : World, (Instr.slice t (.slice a n c) (some (.int .i64 l)) none none).run P W = .ok (.slice a' (n - lo) (c - lo)) W := by
  have he : P.elem t = e := by simp [Program.elem, hu]
  have hsz : ∀ W, (sizeOf e).run P W = .ok 1 W := fun W => by
    cases hq : P.info? e with
    | none => simp [hq] at hs
    | some i =>
      have hsz : i.size = 1 := by simpa [hq] using hs
      simp [sizeOf, typeInfo, hq, hsz]
  refine ⟨if c = lo then a else a.map (·.add (lo * 1)), fun W cs hr hn => ?_, fun W => ?_⟩
  · by_cases hc : c = lo
    · rw [if_pos hc, List.drop_eq_nil_of_le (by omega)]
      exact Rd.nil _ _
    · rw [if_neg hc]
      intro hn
      obtain ⟨b, o, rfl, hr'⟩ := hr (fun h0 => hn (by rw [h0]; simp))
      have := (Rd.mk hr').dropN lo hn
      rw [Nat.mul_one, Option.map_some, Addr.add_mid]
      exact this
  · rw [run_slice_l W t a n c (by rw [hu, he]) .i64 l (by omega) (by omega), he, hsz]
    simp only [Result.andThen, sliced]
    rw [show l.toNat = lo by omega]
/-- append(v, x..), v full and read: the row is new. -/
theorem wpList_appF {w : World} {ops : Array Oper} {rest : List Oper} {o : Oper} {a : Act} {Q : Exit → Act → World → Prop} (hgd : o.guard = none) (s y : Operand) (t tx : TypeId)
    (ho : o.op = .call { callee := .builtin .append, args := #[s, y], argTypes := #[t, tx] })
    (e e' : TypeId) (k : IntKind) (bytes : Nat) (ht : P.underlying t = some (.slice e)) (htx : P.underlying tx = some (.slice e')) (hi : (P.info? e).map (fun i => (i.zero, i.size, i.bytes)) = some (some (.int k 0), 1, bytes))
    (ad0 : Option Addr) (n : Nat) (xs : List Value) (hv : a.eval s = .slice ad0 n n) (hxs : Rd w ad0 xs) (hxl : xs.length = n)
    (ad : Option Addr) (m c : Nat) (news : List Value) (hx : a.eval y = .slice ad m c) (hs : Rd w ad news) (hm : news.length = m) (hm0 : 0 < m) (h1 : ∀ v ∈ news, v.oneCell' = true)
    (h63 : n + m ≤ maxLen) (hbytes : (n + m) * bytes ≤ 140737488355328)
    (h : ∀ v' w', Own w' w.heap.size e 1 v' (n + m) (xs ++ news) → Fr [] w w' → wpList P ops Q rest (a.put o.dst v') w') : wpList P ops Q (o :: rest) a w := by
  obtain ⟨i0, hi0, hz0, hz1, hz2⟩ := info_parts hi
  subst hz2
  refine wpList_plain hgd fun K hK => ?_
  have hold : (Builtin.firstCells i0.size n (.slice ad0 n n)).run P w.drew = .ok xs.toArray w.drew := by
    by_cases h0 : xs = []
    · subst h0
      have hn0 : n = 0 := by simpa using hxl.symm
      subst hn0
      cases ad0 with
      | none => exact run_firstCells_none _ _ _ _ _
      | some a0 =>
        refine run_firstCells_some w.drew i0.size 0 a0 0 0 [] (by simp) (fun j u hu => by simp at hu)
    · obtain ⟨b, ob, rfl, hr⟩ := hxs h0
      refine run_firstCells_some w.drew i0.size n ⟨b, ob, none⟩ n n xs (by rw [hz1, Nat.mul_one]; exact hxl) (fun j u hu => ?_)
      rw [Addr.add_mid]
      exact hr j u hu
  have hsrc := hs.src (P := P) (size := i0.size) (n := m) (c := c) htx (by rw [hm, hz1, Nat.mul_one]) h1
  have hfit : Builtin.nextslicecap (n + m) n * i0.bytes ≤ 281474976710656 := growslice_fits (by omega) hbytes
  have hr := run_append_grow_src w t tx o.type e i0 _ ht hi0 hz0 ad0 n n xs hold _ m news hsrc (by omega) (by simp only [maxLen] at h63; omega) hfit
  unfold Oper.wp execOp
  simp only [ho, resolve, invoke, builtin, Sem.run_bind, Sem.run_pure, Result.andThen_ok, List.map_toArray, List.map_cons, List.map_nil, hv, hx, hr]
  refine hK _ _ (h _ _ ?_ (((Fr.refl _ w).drew).alloc _))
  have hge := grownCap_ge w (n + m) n e
  have hle := grownCap_le_maxLen w (n + m) n e h63
  have hb := Blk.newA w.drew e ((xs ++ news).toArray ++ Builtin.zeroCells (Value.int k 0).cells (grownCap w (n + m) n e - (n + m)))
  have := Own.of_blk (base := w.heap.size) (size := 1) (Nat.le_refl _) hb hge hle (by simp [size_zeroCells, hxl, hm, Value.cells]; omega)
  simp only [Array.toList_append, Nat.mul_one] at this
  rw [List.take_append_of_le_length (by simp [hxl, hm]), List.take_of_length_le (by simp [hxl, hm])] at this
  exact this
end
end Go.Fur
namespace Go.Fur
open Go Go.RowKit Go.Proofs
set_option linter.unusedVariables false
set_option linter.unusedSimpArgs false
def magicL : List Int := [102, 117, 114, 108, 111, 110, 103, 49]
theorem magic_ne {b : List Int} (hb : Byt b) (h : ¬ b.take 8 = magicL) : ((strOfNums (b.take 8)).toList == [102, 117, 114, 108, 111, 110, 103, 49]) = false := by
  rw [beq_eq_false_iff_ne]
  intro h1
  apply h
  have hm : Byt magicL := by intro x hx; simp [magicL] at hx; omega
  refine strOfNums_inj (hb.take 8) hm (ByteArray.ext ?_)
  rw [← Array.toList_inj]
  have h2 : (strOfNums magicL).data.toList = [102, 117, 114, 108, 111, 110, 103, 49] := rfl
  rw [h2, ← h1, ByteArray.toList_eq]
/-- What block n says of the newest generation, and how long its snapshot is. -/
def rootG (r : Nat × Nat × Bool) (n : Nat) (b : List Int) : Nat × Nat × Bool :=
  if b.take 8 = magicL ∧ r.1 < four4 b 8 ∧ four4 b 8 % 2 = n then (four4 b 8, four4 b 12, true) else r
def rootN (now : List (List Int)) (r : Nat × Nat × Bool) (n : Nat) : Nat × Nat × Bool :=
  match now[n]? with
  | some b => rootG r n b
  | none => r
def rootK (now : List (List Int)) : Nat → Nat × Nat × Bool
  | 0 => (1, 0, false)
  | n + 1 => rootN now (rootK now n) n
def rootP (now : List (List Int)) : Nat × Nat × Bool := rootK now 2
def RootR (w : World) (d : D) (g s t i : Value) (wr : World) : Prop := ∃ k : Nat, k ≤ 2 ∧ i = .int .i64 (k : Int) ∧ g = .int .u32 (rootK d.now k).1 ∧ s = .int .i64 (rootK d.now k).2.1 ∧ t = .bool (rootK d.now k).2.2 ∧ Fr [] w wr
set_option maxRecDepth 100000 in
set_option maxHeartbeats 2000000 in
theorem root_calls {w : World} {base p bb : Nat} {lv : Value} {d : D} (h : DiskAt w base p bb lv d) (hby : ∀ b ∈ d.now, Byt b) :
    Calls Try.prog 47 #[.pointer (some ⟨p, 0, none⟩)] w fun e w' => e = .returned (.tuple #[.int .u32 (rootP d.now).1, .int .i64 (rootP d.now).2.1, .bool (rootP d.now).2.2]) ∧ Fr [] w w' := by
  have HRd := Lib.hid (fun (W : World) (f : Fr [] w W) (n : Nat) (b : List Int) (hn : d.now[n]? = some b) => read_calls (h.fr0 f) n b hn)
  have HRn := Lib.hid (fun (W : World) (f : Fr [] w W) (n : Int) (hn : n < 0 ∨ d.now.length ≤ n) => read_none (h.fr0 f) n hn)
  have HY := Lib.hid hby
  have HW := Lib.hid h.wf
  clear h hby
  go_enter Try.func47, Try.ntmps47
  go_wp2_with fail
  go_loopw [2, 3, 4, 9] (fun g s t i wr => RootR w d g s t i wr) (fun _ _ _ i _ => 2 - (intOf i).toNat)
  case atStart => exact ⟨0, Nat.zero_le _, rfl, rfl, rfl, rfl, Fr.refl _ _⟩
  case round =>
    obtain ⟨k, hk, rfl, rfl, rfl, rfl, hF⟩ := hrel
    have hK1 : rootK d.now (k + 1) = rootN d.now (rootK d.now k) k := rfl
    have HF := Lib.hid hF
    have hk1 : k = 2 ∨ k < 2 := by omega
    rcases hk1 with rfl | hk1
    · go_wp2_with fail
      go_ret3
      exact ⟨rfl, HF.out⟩
    · obtain ⟨r1, r2, r3, hr⟩ : ∃ r1 r2 r3, rootK d.now k = (r1, r2, r3) := ⟨_, _, _, rfl⟩
      rw [hr] at hK1 ⊢
      dsimp only
      have HK1 := Lib.hid hK1
      clear hK1 hr
      rcases Nat.lt_or_ge k d.now.length with hlt | hge
      · obtain ⟨b, hnb⟩ : ∃ b, d.now[k]? = some b := ⟨d.now[k], List.getElem?_eq_getElem hlt⟩
        have HNB := Lib.hid hnb
        clear hnb hF
        go_wp2_with fail
        refine (HRd.out wr HF.out k b HNB.out).mono ?_
        rintro e w2 ⟨g, cap, rfl, O2, F2⟩
        obtain ⟨hr2, hc2, hm2⟩ := O2.rdS (X := fun _ => False) (fun _ _ h => h)
        have hlen : b.length = 64 := HW.out.now b (List.mem_of_getElem? HNB.out)
        have hyb := HY.out b (List.mem_of_getElem? HNB.out)
        have HR2 := Lib.hid hr2.rd
        have HL := Lib.hid hlen
        have HYB := Lib.hid hyb
        have HF2 := Lib.hid (HF.out.trans0 F2)
        have HM := Lib.hid hm2
        have hm3 : cap ≤ 9223372036854775807 := by unfold maxLen at hm2; exact hm2
        have hlt0 := four4_lt hyb 8
        have hlt4 := four4_lt hyb 12
        clear O2 F2 hlen hyb hr2 hm2
        dsimp only
        have hcv : (convert 33 9 (.slice (some ⟨g, 0, none⟩) 8 cap)).run Try.prog w2 = .ok (.string (strOfNums (b.take 8))) w2 := string_rd Try.underlying33 Try.underlying5 Try.underlying9 (by rw [bv_take]; exact HR2.out.takeN 8) 8 (by rw [List.length_take, HL.out]; rfl)
        have hsl : ∀ i, Rd w2 (some ⟨g, i, none⟩) (bv (b.drop i)) := fun i => by rw [bv_drop]; simpa using HR2.out.dropN i
        have HSL := Lib.hid hsl
        have HRN : Hid (rootN d.now (r1, r2, r3) k = rootG (r1, r2, r3) k b) := Lib.hid (by unfold rootN; rw [HNB.out])
        clear hsl
        by_cases hmg : b.take 8 = magicL
        · have hb1 : ((strOfNums (b.take 8)).toList == [102, 117, 114, 108, 111, 110, 103, 49]) = true := by rw [hmg, ByteArray.toList_eq]; rfl
          have HMG := Lib.hid hmg
          clear hmg
          go_wp2_with fail
          refine (four4_calls (i := 8) (b := b) (HSL.out 8) HYB.out (by rw [HL.out]; omega) (by omega) (by omega) (by have := HM.out; omega)).mono ?_
          rintro e w3 ⟨rfl, nk, rfl⟩
          dsimp only
          go_wp2_with fail
          · refine (four4_calls (i := 12) (b := b) (hn := by omega) ((HSL.out 12).fr0 ((Fr.refl _ _).drewN _)) HYB.out (by rw [HL.out]; omega) (by omega) (by have := HM.out; omega)).mono ?_
            rintro e w4 ⟨rfl, nk2, rfl⟩
            dsimp only
            have h1 : r1 < four4 b 8 := by assumption
            have h2 : ((four4 b 8 : Int) % 2 == (k : Int)) = true := by assumption
            have h3 : four4 b 8 % 2 = k := by have := beq_iff_eq.1 h2; omega
            go_wp2_with fail
            go_roundw
            case rel =>
              refine ⟨k + 1, by omega, by go_num, ?_, ?_, ?_, HF2.out.drewN _⟩ <;> (rw [HK1.out, HRN.out]; unfold rootG; rw [if_pos ⟨HMG.out, h1, h3⟩])
            case measure => simp [intOf]; omega
          · have h2 : ((four4 b 8 : Int) % 2 == (k : Int)) = false := by assumption
            have h3 : ¬ four4 b 8 % 2 = k := fun h3 => by have := beq_eq_false_iff_ne.1 h2; omega
            go_roundw
            case rel =>
              refine ⟨k + 1, by omega, by go_num, ?_, ?_, ?_, HF2.out.drewN _⟩ <;> (rw [HK1.out, HRN.out]; unfold rootG; rw [if_neg (fun hh => h3 hh.2.2)])
            case measure => simp [intOf]; omega
          · have h1 : ¬ r1 < four4 b 8 := by assumption
            go_roundw
            case rel =>
              refine ⟨k + 1, by omega, by go_num, ?_, ?_, ?_, HF2.out.drewN _⟩ <;> (rw [HK1.out, HRN.out]; unfold rootG; rw [if_neg (fun hh => h1 hh.2.1)])
            case measure => simp [intOf]; omega
        · have hb1 : ((strOfNums (b.take 8)).toList == [102, 117, 114, 108, 111, 110, 103, 49]) = false := magic_ne HYB.out hmg
          have HMG := Lib.hid hmg
          clear hmg
          go_wp2_with fail
          go_roundw
          case rel =>
            refine ⟨k + 1, by omega, by go_num, ?_, ?_, ?_, HF2.out⟩ <;> (rw [HK1.out, HRN.out]; unfold rootG; rw [if_neg (fun hh => HMG.out hh.1)])
          case measure => simp [intOf]; omega
      · have hge' : (d.now.length : Int) ≤ (k : Int) := by omega
        have HRN : Hid (rootN d.now (r1, r2, r3) k = (r1, r2, r3)) := Lib.hid (by unfold rootN; rw [List.getElem?_eq_none hge])
        clear hF
        go_wp2_with fail
        refine (HRn.out wr HF.out k (.inr hge')).mono ?_
        rintro e w2 ⟨rfl, rfl⟩
        dsimp only
        go_wp2_with fail
        go_roundw
        case rel => refine ⟨k + 1, by omega, by go_num, ?_, ?_, ?_, HF.out⟩ <;> rw [HK1.out, HRN.out]
        case measure => simp [intOf]; omega
end Go.Fur
namespace Go.Fur
open Go Go.RowKit
section
variable {P : Program}
theorem Fr.putObj {S : List Nat} {a b : World} (h : Fr S a b) (l : Nat) (o : Obj) (hl : l ∈ S ∨ a.heap.size ≤ l) : Fr S a (b.putObj l o) :=
  ⟨h.os, h.tape, h.output, by rw [World.putObj_size]; exact h.size, fun k hk hn => (World.putObj_heap_other (by intro e; subst e; rcases hl with h1 | h1; exact hn h1; omega)).trans (h.block k hk hn)⟩
/-- What is no row of cells, and new. -/
def Bk (B : Nat) (A : World) (k : Nat) : Prop := B ≤ k ∧ ∃ o : Obj, A.heap[k]? = some o ∧ o.isCells = false
/-- I stays when the blocks of S are turned, and what is no row of cells. -/
def Abi {β : Type} (B : Nat) (S : List Nat) (I : β → World → Prop) : Prop := ∀ x (T : List Nat) (A C : World), I x A → Fr T A C → (∀ k ∈ T, k ∈ S ∨ Bk B A k) → I x C
/-- Blocks of X alone are turned. -/
def FrX (X : Nat → Prop) (W W' : World) : Prop := ∃ T, Fr T W W' ∧ ∀ k ∈ T, X k
theorem Fr.x {X : Nat → Prop} {T : List Nat} {W W' : World} (h : Fr T W W') (hT : ∀ k ∈ T, X k) : FrX X W W' := ⟨T, h, hT⟩
theorem FrX.trans {X : Nat → Prop} {a b c : World} (h : FrX X a b) (k : FrX X b c) : FrX X a c := by
  obtain ⟨T, h, hT⟩ := h
  obtain ⟨U, k, hU⟩ := k
  refine ⟨T ++ U, (h.mono (fun x hx _ => List.mem_append_left _ hx)).trans1 (k.mono (fun x hx _ => List.mem_append_right _ hx)), fun x hx => ?_⟩
  rcases List.mem_append.1 hx with h1 | h1
  · exact hT x h1
  · exact hU x h1
theorem FrX.size {X : Nat → Prop} {a b : World} (h : FrX X a b) : a.heap.size ≤ b.heap.size := by
  obtain ⟨T, h, _⟩ := h
  exact h.size
theorem Blk.frX {X : Nat → Prop} {a b : World} {g : Nat} {t : TypeId} {cs : List Value} (h : Blk a g t cs) (k : FrX X a b) (hg : ¬ X g) : Blk b g t cs := by
  obtain ⟨T, k, hT⟩ := k
  exact h.fr k (fun hm => hg (hT g hm))
/-- How a round leaves the world: rows of cells that are in X are turned. -/
def RoundE (X : Nat → Prop) (J : World → Prop) (W : World) : Exit → Act → World → Prop
  | .normal, _, W' => (∃ T, Fr T W W' ∧ ∀ k ∈ T, X k ∧ ∃ t cs, Blk W k t cs) ∧ J W'
  | _, _, _ => False
/-- An iterator under the wide fence: it writes S and new blocks. -/
def SeqFr {α : Type} (P : Program) (gf : Nat) (lb : Array Value) (enc : α → Value) (El : α → World → Prop) (S : List Nat) (X : Nat → Prop) (N : Nat) (End : List α → World → Prop) (w : World) : Prop :=
  ∀ (l : Nat) (J : List α → World → Prop) (W : World), Fr [] w W → (∀ pre (A C : World), J pre A → Fr S A C → J pre C) →
    (∀ pre x (W1 : World), J pre W1 → El x W1 → pre.length < N → YieldAt Fence.wide 1 P l #[enc x] W1 fun e W' => e = .returned (.bool true) ∧ J (pre ++ [x]) W' ∧ FrX X W1 W') →
    J [] W →
    CallsIn Fence.wide 2 P gf (#[.func (.yield l) #[] #[]] ++ lb) W fun e W' => (∃ v, e = .returned v) ∧ ∃ xs, J xs W' ∧ End xs W'
theorem wpIn_rangeFr {α : Type} {g : Operand} {p1 : Tmp} {assign body : Code} {Q : Exit → Act → World → Prop} {a : Act} {w : World}
    {gf : Nat} {lb : Array Value} (hg : a.eval g = .func (.func gf) #[] lb) (eg : ∀ args w, (callFunc gf args).run P w = .ok (.enter gf args) w)
    {enc : α → Value} {El : α → World → Prop} {S : List Nat} {X : Nat → Prop} {N : Nat} {End : List α → World → Prop} (hS : ∀ k ∈ S, k < w.heap.size) (hX : ∀ k, w.heap.size ≤ k → X k) (hseq : SeqFr P gf lb enc El S X N End w)
    (I : List α → World → Prop) (hI : Abi w.heap.size S I) (hEl : Abi w.heap.size S El) (hEnd : Abi w.heap.size [] End) (Ax : α → Act → World → Prop) (hAx : ∀ a', Abi w.heap.size [] (fun x W => Ax x a' W)) (h0 : I [] w)
    (hassign : ∀ (l : Nat) (x : α) (W : World), El x W →
      assign.wpIn (Fence.wide.inRound l) 1 P (Exit.then (fun a₁ W₁ => Fr [] W W₁ ∧ Ax x a₁ W₁) (fun _ _ _ => False)) { tmps := a.tmps.setIfInBounds p1 (enc x), defers := [] } W)
    (hbody : ∀ (l : Nat) (pre : List α) (x : α) (a₁ : Act) (W : World), I pre W → El x W → Ax x a₁ W → pre.length < N → body.wpIn (Fence.wide.inRound l) 1 P (RoundE X (I (pre ++ [x])) W) a₁ W)
    (hdone : ∀ (D : Nat) (xs : List α) (W : World), w.heap.size ≤ D → End xs W → I xs W → W.heap[D]? = some (.deferred (some [])) → Q .normal { a with defers := { target := .collected D, args := #[] } :: a.defers } W) :
    (Code.rangeFunc g #[p1] assign body).wpIn Fence.wide 3 P Q a w := by
  refine wpIn_rangeFunc ?_
  intro fn hfn
  obtain ⟨rec, hrec⟩ : ∃ rec : LoopState → Loop, rec = fun st => { state := st, pending := none, fn, tmps := a.tmps, params := #[p1], assign, body, defers := w.heap.size } := ⟨_, rfl⟩
  obtain ⟨W1, hW1⟩ : ∃ W1, (w.alloc (.deferred (some []))).alloc (.loop (rec .ready)) = W1 := ⟨_, rfl⟩
  have F1 : Fr [] w W1 := by rw [← hW1]; exact ((Fr.refl [] w).alloc _).alloc _
  have hL1 : W1.heap[w.heap.size + 1]? = some (.loop (rec .ready)) := by
    have := World.alloc_heap_new (w.alloc (.deferred (some []))) (.loop (rec .ready))
    rwa [World.size_alloc, hW1] at this
  have hK1 : W1.heap[w.heap.size]? = some (.deferred (some [])) := by
    rw [← hW1]
    exact (Below.heap_alloc _ _ _ (by simp)).trans (World.alloc_heap_new w _)
  have hI1 : I [] W1 := hI [] [] w W1 h0 F1 (by simp)
  refine ⟨w.heap.size + 1, [{ target := .collected w.heap.size, args := #[] }], W1, { target := .fn (.func gf) lb, args := #[.func (.yield (w.heap.size + 1)) #[] #[]] }, W1, gf,
    #[.func (.yield (w.heap.size + 1)) #[] #[]] ++ lb, W1, ?_, ?_, ?_, ?_, fun _ => by decide, ?_⟩
  · rw [← hW1, hrec]
    exact run_enterLoop_outer _ _ _ _ _
  · simp only [resolve, hg]
    simp [go_sem]
  · intro f' hf'
    trivial
  · simp [invoke, go_sem, eg]
  have hbk : ∀ {A : World} {o : Obj}, A.heap[w.heap.size + 1]? = some o → o.isCells = false → ∀ k ∈ [w.heap.size + 1], k ∈ S ∨ Bk w.heap.size A k := fun h ho k hk => by
    rw [List.mem_singleton.1 hk]
    exact .inr ⟨by omega, _, h, ho⟩
  have hbk0 : ∀ {A : World} {o : Obj}, A.heap[w.heap.size + 1]? = some o → o.isCells = false → ∀ k ∈ [w.heap.size + 1], k ∈ ([] : List Nat) ∨ Bk w.heap.size A k := fun h ho k hk => by
    rw [List.mem_singleton.1 hk]
    exact .inr ⟨by omega, _, h, ho⟩
  have hput : ∀ (A : World) (o : Obj), Fr [w.heap.size + 1] A (A.putObj (w.heap.size + 1) o) := fun A o => (Fr.refl _ A).putObj _ o (.inl (by simp))
  refine (hseq (w.heap.size + 1) (fun pre W => I pre W ∧ W.heap[w.heap.size + 1]? = some (.loop (rec .ready)) ∧ W.heap[w.heap.size]? = some (.deferred (some []))) W1 F1 ?_ ?_ ⟨hI1, hL1, hK1⟩).mono ?_
  · rintro pre A C ⟨hi, hl, hk⟩ hf
    refine ⟨hI pre S A C hi hf (fun k hk => .inl hk), ?_, ?_⟩
    · exact (hf.block _ (Array.getElem?_eq_some_iff.1 hl).1 (fun hm => by have := hS _ hm; omega)).trans hl
    · exact (hf.block _ (Array.getElem?_eq_some_iff.1 hk).1 (fun hm => by have := hS _ hm; omega)).trans hk
  · rintro pre x W ⟨hi, hl, hk⟩ hx hlen
    have hy := run_yield (P := P) (args := #[enc x]) hl (by rw [hrec]; rfl)
    rw [hrec] at hy
    have hfold : ∀ t : Array Value, ((#[p1] : Array Tmp).zip #[enc x]).foldl (fun t (p, v) => t.setIfInBounds p v) t = t.setIfInBounds p1 (enc x) := fun t => by simp
    have hA := hassign (w.heap.size + 1) x W hx
    rw [← hfold a.tmps] at hA
    refine ⟨fn, _, assign, body, hy, roundIn_of_wpIn hfn (wpIn_mono hA ?_)⟩
    clear hy
    intro e a₁ Wa hq
    cases e with
    | normal =>
      obtain ⟨hfa, hax⟩ := hq
      have hla : Wa.heap[w.heap.size + 1]? = some (.loop (rec .ready)) := (hfa.block _ (Array.getElem?_eq_some_iff.1 hl).1 (by simp)).trans hl
      have hka : Wa.heap[w.heap.size]? = some (.deferred (some [])) := (hfa.block _ (Array.getElem?_eq_some_iff.1 hk).1 (by simp)).trans hk
      have hlt : w.heap.size + 1 < Wa.heap.size := (Array.getElem?_eq_some_iff.1 hla).1
      refine ⟨_, run_beginRound hla (by rw [hrec]), ?_⟩
      have hob : ({ rec .ready with state := .busy } : Loop) = rec .busy := by rw [hrec]
      rw [hob]
      have hf2 := hput Wa (.loop (rec .busy))
      have hl2 : (Wa.putObj (w.heap.size + 1) (.loop (rec .busy))).heap[w.heap.size + 1]? = some (.loop (rec .busy)) := World.putObj_heap_same hlt
      have hk2 : (Wa.putObj (w.heap.size + 1) (.loop (rec .busy))).heap[w.heap.size]? = some (.deferred (some [])) := (World.putObj_heap_other (by omega)).trans hka
      generalize Wa.putObj (w.heap.size + 1) (.loop (rec .busy)) = Wb at *
      have hib := hI pre _ _ _ (hI pre [] W Wa hi hfa (by simp)) hf2 (hbk hla rfl)
      have hxb := hEl x _ _ _ (hEl x [] W Wa hx hfa (by simp)) hf2 (hbk hla rfl)
      have hab := hAx a₁ x _ _ _ hax hf2 (hbk0 hla rfl)
      refine wpIn_mono (hbody (w.heap.size + 1) pre x a₁ Wb hib hxb hab hlen) ?_
      intro e a3 W3 hp
      cases e with
      | normal =>
        obtain ⟨⟨T, hT, hTc⟩, hj⟩ := hp
        have hnot : ∀ k (o : Obj), Wb.heap[k]? = some o → o.isCells = false → k ∉ T := fun k o ho hc hm => by
          obtain ⟨_, t, cs, hb⟩ := hTc k hm
          unfold Blk at hb
          rw [ho] at hb
          cases hb
          cases hc
        have hl3 : W3.heap[w.heap.size + 1]? = some (.loop (rec .busy)) := (hT.block _ (Array.getElem?_eq_some_iff.1 hl2).1 (hnot _ _ hl2 rfl)).trans hl2
        have hk3 : W3.heap[w.heap.size]? = some (.deferred (some [])) := (hT.block _ (Array.getElem?_eq_some_iff.1 hk2).1 (hnot _ _ hk2 rfl)).trans hk2
        have hr := run_endRound (P := P) none hl3
        have hob2 : ({ rec .busy with state := if (none : Option Code).isNone then .ready else .done, pending := none } : Loop) = rec .ready := by rw [hrec]; rfl
        rw [hob2] at hr
        refine ⟨_, _, hr, rfl, ⟨hI _ _ _ _ hj (hput W3 _) (hbk hl3 rfl), World.putObj_heap_same (Array.getElem?_eq_some_iff.1 hl3).1, (World.putObj_heap_other (by omega)).trans hk3⟩, ?_⟩
        have b4 := hput W3 (.loop (rec .ready))
        have hx1 : ∀ k ∈ [w.heap.size + 1], X k := fun k hk => hX k (by rw [List.mem_singleton.1 hk]; omega)
        exact (((hfa.x (by simp)).trans (hf2.x hx1)).trans (hT.x (fun k hk => (hTc k hk).1))).trans (b4.x hx1)
      | ret => exact hp.elim
      | exit id => exact hp.elim
      | goto t => exact hp.elim
      | panic ch => exact hp.elim
      | outgrown => exact hp.elim
    | ret => exact hq.elim
    | exit id => exact hq.elim
    | goto t => exact hq.elim
    | panic ch => exact hq.elim
    | outgrown => exact hq.elim
  · rintro e W2 ⟨⟨v, rfl⟩, xs, ⟨hi, hl, hk⟩, hend⟩
    have hr := run_endLoop (P := P) hl (by rw [hrec]; simp)
    have hp : (rec .ready).pending = none := by rw [hrec]
    rw [hp] at hr
    exact ⟨none, _, hr, hdone _ xs _ (Nat.le_refl _) (hEnd xs _ _ _ hend (hput W2 _) (hbk0 hl rfl)) (hI xs _ _ _ hi (hput W2 _) (hbk hl rfl)) ((World.putObj_heap_other (by omega)).trans hk)⟩
/-- A list of operations walked as everywhere serves in a round of the wide fence. -/
theorem Oper.wpIn_of_wp {n l : Nat} {o : Oper} {a : Act} {w : World} {N N' : Act → World → Prop} {Q : Exit → Act → World → Prop} (hd : ∀ c, o.op ≠ .defer c) (hN : ∀ a w, N a w → N' a w) (h : o.wp P a w N Q) : o.wpIn (Fence.wide.inRound l) n P a w N' Q := by
  refine ⟨fun _ _ => trivial, ?_⟩
  rw [Oper.semAt_eq _ _ _ hd]
  unfold Oper.wp at h
  generalize hx : (execOp a.eval o).run P w = r at *
  cases r with
  | ok x w' =>
    cases x with
    | value v => exact hN _ _ h
    | skip => exact hN _ _ h
    | defer d => exact hN _ _ h
    | enter f args =>
      refine ⟨fun h => (by cases h), (CallsIn.inRound l ((callsIn_wide (n := n - 1)).2 h)).mono ?_⟩
      intro e w'' he
      cases e with
      | returned v => exact hN _ _ he
      | panicked c => exact he
      | outgrown => exact he
    | row row args =>
      have hR : RowsIn Fence.wide (n - 1) P row args w' fun v w'' => N' (a.put o.dst v) w'' := fun c cs _ => by
        obtain ⟨v, w2, h1, h2⟩ := h c cs
        exact ⟨v, w2, hN _ _ h1, stepsIn_wide.2 h2⟩
      exact ⟨fun h => (by cases h), hR⟩
    | _ => exact h.elim
  | halt h0 w' =>
    cases h0 with
    | panic v => exact h
    | _ => exact h.elim
theorem wpListIn_of_wpList {n l : Nat} {ops : Array Oper} {Q : Exit → Act → World → Prop} (hq : ¬ LetsOut Q) : ∀ (rest : List Oper) (a : Act) (w : World), (∀ o ∈ rest, ∀ c, o.op ≠ .defer c) → wpList P ops Q rest a w → wpListIn (Fence.wide.inRound l) n P ops Q rest a w
  | [], a, w, _, h => h
  | o :: rest, a, w, hd, h => by
    unfold wpList at h
    unfold wpListIn
    split at h
    · rename_i hw
      rw [if_pos hw]
      exact Oper.wpIn_of_wp (hd o (by simp)) (fun a w h => wpListIn_of_wpList hq rest a w (fun o ho => hd o (by simp [ho])) h) (h.resolve_right (fun hh => hq hh.2))
    · rename_i hw
      rw [if_neg hw]
      exact ⟨fun _ _ => trivial, wpListIn_of_wpList hq rest _ w (fun o ho => hd o (by simp [ho])) h⟩
end
end Go.Fur
namespace Go.Fur
open Go Go.RowKit
section
variable {P : Program}
/-- An iterator under the wide fence: it writes S and new blocks. -/
def SeqFrN {α : Type} (P : Program) (gf : Nat) (lb : Array Value) (enc : α → Array Value) (El : α → World → Prop) (S : List Nat) (X : Nat → Prop) (N : Nat) (End : List α → World → Prop) (w : World) : Prop :=
  ∀ (l : Nat) (J : List α → World → Prop) (W : World), Fr [] w W → (∀ pre (A C : World), J pre A → Fr S A C → J pre C) →
    (∀ pre x (W1 : World), J pre W1 → El x W1 → pre.length < N → YieldAt Fence.wide 1 P l (enc x) W1 fun e W' => e = .returned (.bool true) ∧ J (pre ++ [x]) W' ∧ FrX X W1 W') →
    J [] W →
    CallsIn Fence.wide 2 P gf (#[.func (.yield l) #[] #[]] ++ lb) W fun e W' => (∃ v, e = .returned v) ∧ ∃ xs, J xs W' ∧ End xs W'
theorem wpIn_rangeFrN {α : Type} {g : Operand} {ps : Array Tmp} {assign body : Code} {Q : Exit → Act → World → Prop} {a : Act} {w : World}
    {gf : Nat} {lb : Array Value} (hg : a.eval g = .func (.func gf) #[] lb) (eg : ∀ args w, (callFunc gf args).run P w = .ok (.enter gf args) w)
    {enc : α → Array Value} {El : α → World → Prop} {S : List Nat} {X : Nat → Prop} {N : Nat} {End : List α → World → Prop} (hps : ∀ x, (enc x).size = ps.size) (hS : ∀ k ∈ S, k < w.heap.size) (hX : ∀ k, w.heap.size ≤ k → X k) (hseq : SeqFrN P gf lb enc El S X N End w)
    (I : List α → World → Prop) (hI : Abi w.heap.size S I) (hEl : Abi w.heap.size S El) (hEnd : Abi w.heap.size [] End) (Ax : α → Act → World → Prop) (hAx : ∀ a', Abi w.heap.size [] (fun x W => Ax x a' W)) (h0 : I [] w)
    (hassign : ∀ (l : Nat) (x : α) (W : World), El x W →
      assign.wpIn (Fence.wide.inRound l) 1 P (Exit.then (fun a₁ W₁ => Fr [] W W₁ ∧ Ax x a₁ W₁) (fun _ _ _ => False)) { tmps := (ps.zip (enc x)).foldl (fun t (p, v) => t.setIfInBounds p v) a.tmps, defers := [] } W)
    (hbody : ∀ (l : Nat) (pre : List α) (x : α) (a₁ : Act) (W : World), I pre W → El x W → Ax x a₁ W → pre.length < N → body.wpIn (Fence.wide.inRound l) 1 P (RoundE X (I (pre ++ [x])) W) a₁ W)
    (hdone : ∀ (D : Nat) (xs : List α) (W : World), w.heap.size ≤ D → End xs W → I xs W → W.heap[D]? = some (.deferred (some [])) → Q .normal { a with defers := { target := .collected D, args := #[] } :: a.defers } W) :
    (Code.rangeFunc g ps assign body).wpIn Fence.wide 3 P Q a w := by
  refine wpIn_rangeFunc ?_
  intro fn hfn
  obtain ⟨rec, hrec⟩ : ∃ rec : LoopState → Loop, rec = fun st => { state := st, pending := none, fn, tmps := a.tmps, params := ps, assign, body, defers := w.heap.size } := ⟨_, rfl⟩
  obtain ⟨W1, hW1⟩ : ∃ W1, (w.alloc (.deferred (some []))).alloc (.loop (rec .ready)) = W1 := ⟨_, rfl⟩
  have F1 : Fr [] w W1 := by rw [← hW1]; exact ((Fr.refl [] w).alloc _).alloc _
  have hL1 : W1.heap[w.heap.size + 1]? = some (.loop (rec .ready)) := by
    have := World.alloc_heap_new (w.alloc (.deferred (some []))) (.loop (rec .ready))
    rwa [World.size_alloc, hW1] at this
  have hK1 : W1.heap[w.heap.size]? = some (.deferred (some [])) := by
    rw [← hW1]
    exact (Below.heap_alloc _ _ _ (by simp)).trans (World.alloc_heap_new w _)
  have hI1 : I [] W1 := hI [] [] w W1 h0 F1 (by simp)
  refine ⟨w.heap.size + 1, [{ target := .collected w.heap.size, args := #[] }], W1, { target := .fn (.func gf) lb, args := #[.func (.yield (w.heap.size + 1)) #[] #[]] }, W1, gf,
    #[.func (.yield (w.heap.size + 1)) #[] #[]] ++ lb, W1, ?_, ?_, ?_, ?_, fun _ => by decide, ?_⟩
  · rw [← hW1, hrec]
    exact run_enterLoop_outer _ _ _ _ _
  · simp only [resolve, hg]
    simp [go_sem]
  · intro f' hf'
    trivial
  · simp [invoke, go_sem, eg]
  have hbk : ∀ {A : World} {o : Obj}, A.heap[w.heap.size + 1]? = some o → o.isCells = false → ∀ k ∈ [w.heap.size + 1], k ∈ S ∨ Bk w.heap.size A k := fun h ho k hk => by
    rw [List.mem_singleton.1 hk]
    exact .inr ⟨by omega, _, h, ho⟩
  have hbk0 : ∀ {A : World} {o : Obj}, A.heap[w.heap.size + 1]? = some o → o.isCells = false → ∀ k ∈ [w.heap.size + 1], k ∈ ([] : List Nat) ∨ Bk w.heap.size A k := fun h ho k hk => by
    rw [List.mem_singleton.1 hk]
    exact .inr ⟨by omega, _, h, ho⟩
  have hput : ∀ (A : World) (o : Obj), Fr [w.heap.size + 1] A (A.putObj (w.heap.size + 1) o) := fun A o => (Fr.refl _ A).putObj _ o (.inl (by simp))
  refine (hseq (w.heap.size + 1) (fun pre W => I pre W ∧ W.heap[w.heap.size + 1]? = some (.loop (rec .ready)) ∧ W.heap[w.heap.size]? = some (.deferred (some []))) W1 F1 ?_ ?_ ⟨hI1, hL1, hK1⟩).mono ?_
  · rintro pre A C ⟨hi, hl, hk⟩ hf
    refine ⟨hI pre S A C hi hf (fun k hk => .inl hk), ?_, ?_⟩
    · exact (hf.block _ (Array.getElem?_eq_some_iff.1 hl).1 (fun hm => by have := hS _ hm; omega)).trans hl
    · exact (hf.block _ (Array.getElem?_eq_some_iff.1 hk).1 (fun hm => by have := hS _ hm; omega)).trans hk
  · rintro pre x W ⟨hi, hl, hk⟩ hx hlen
    have hy := run_yield (P := P) (args := (enc x)) hl (by rw [hrec]; exact hps x)
    rw [hrec] at hy
    have hA := hassign (w.heap.size + 1) x W hx
    refine ⟨fn, _, assign, body, hy, roundIn_of_wpIn hfn (wpIn_mono hA ?_)⟩
    clear hy
    intro e a₁ Wa hq
    cases e with
    | normal =>
      obtain ⟨hfa, hax⟩ := hq
      have hla : Wa.heap[w.heap.size + 1]? = some (.loop (rec .ready)) := (hfa.block _ (Array.getElem?_eq_some_iff.1 hl).1 (by simp)).trans hl
      have hka : Wa.heap[w.heap.size]? = some (.deferred (some [])) := (hfa.block _ (Array.getElem?_eq_some_iff.1 hk).1 (by simp)).trans hk
      have hlt : w.heap.size + 1 < Wa.heap.size := (Array.getElem?_eq_some_iff.1 hla).1
      refine ⟨_, run_beginRound hla (by rw [hrec]), ?_⟩
      have hob : ({ rec .ready with state := .busy } : Loop) = rec .busy := by rw [hrec]
      rw [hob]
      have hf2 := hput Wa (.loop (rec .busy))
      have hl2 : (Wa.putObj (w.heap.size + 1) (.loop (rec .busy))).heap[w.heap.size + 1]? = some (.loop (rec .busy)) := World.putObj_heap_same hlt
      have hk2 : (Wa.putObj (w.heap.size + 1) (.loop (rec .busy))).heap[w.heap.size]? = some (.deferred (some [])) := (World.putObj_heap_other (by omega)).trans hka
      generalize Wa.putObj (w.heap.size + 1) (.loop (rec .busy)) = Wb at *
      have hib := hI pre _ _ _ (hI pre [] W Wa hi hfa (by simp)) hf2 (hbk hla rfl)
      have hxb := hEl x _ _ _ (hEl x [] W Wa hx hfa (by simp)) hf2 (hbk hla rfl)
      have hab := hAx a₁ x _ _ _ hax hf2 (hbk0 hla rfl)
      refine wpIn_mono (hbody (w.heap.size + 1) pre x a₁ Wb hib hxb hab hlen) ?_
      intro e a3 W3 hp
      cases e with
      | normal =>
        obtain ⟨⟨T, hT, hTc⟩, hj⟩ := hp
        have hnot : ∀ k (o : Obj), Wb.heap[k]? = some o → o.isCells = false → k ∉ T := fun k o ho hc hm => by
          obtain ⟨_, t, cs, hb⟩ := hTc k hm
          unfold Blk at hb
          rw [ho] at hb
          cases hb
          cases hc
        have hl3 : W3.heap[w.heap.size + 1]? = some (.loop (rec .busy)) := (hT.block _ (Array.getElem?_eq_some_iff.1 hl2).1 (hnot _ _ hl2 rfl)).trans hl2
        have hk3 : W3.heap[w.heap.size]? = some (.deferred (some [])) := (hT.block _ (Array.getElem?_eq_some_iff.1 hk2).1 (hnot _ _ hk2 rfl)).trans hk2
        have hr := run_endRound (P := P) none hl3
        have hob2 : ({ rec .busy with state := if (none : Option Code).isNone then .ready else .done, pending := none } : Loop) = rec .ready := by rw [hrec]; rfl
        rw [hob2] at hr
        refine ⟨_, _, hr, rfl, ⟨hI _ _ _ _ hj (hput W3 _) (hbk hl3 rfl), World.putObj_heap_same (Array.getElem?_eq_some_iff.1 hl3).1, (World.putObj_heap_other (by omega)).trans hk3⟩, ?_⟩
        have b4 := hput W3 (.loop (rec .ready))
        have hx1 : ∀ k ∈ [w.heap.size + 1], X k := fun k hk => hX k (by rw [List.mem_singleton.1 hk]; omega)
        exact (((hfa.x (by simp)).trans (hf2.x hx1)).trans (hT.x (fun k hk => (hTc k hk).1))).trans (b4.x hx1)
      | ret => exact hp.elim
      | exit id => exact hp.elim
      | goto t => exact hp.elim
      | panic ch => exact hp.elim
      | outgrown => exact hp.elim
    | ret => exact hq.elim
    | exit id => exact hq.elim
    | goto t => exact hq.elim
    | panic ch => exact hq.elim
    | outgrown => exact hq.elim
  · rintro e W2 ⟨⟨v, rfl⟩, xs, ⟨hi, hl, hk⟩, hend⟩
    have hr := run_endLoop (P := P) hl (by rw [hrec]; simp)
    have hp : (rec .ready).pending = none := by rw [hrec]
    rw [hp] at hr
    exact ⟨none, _, hr, hdone _ xs _ (Nat.le_refl _) (hEnd xs _ _ _ hend (hput W2 _) (hbk0 hl rfl)) (hI xs _ _ _ hi (hput W2 _) (hbk hl rfl)) ((World.putObj_heap_other (by omega)).trans hk)⟩
end
end Go.Fur
namespace Go.Fur
open Go Go.RowKit Go.Proofs
attribute [local go_sem] Oper.semAt_some
set_option linter.unusedVariables false
set_option linter.unusedSimpArgs false
theorem blks_calls (w : World) (q : Nat) :
    Calls Try.prog 48 #[.pointer (some ⟨q, 0, none⟩)] w fun e w' => e = .returned (.func (.func 63) #[] #[.pointer (some ⟨w.heap.size, 0, none⟩)]) ∧
      Blk w' w.heap.size 67 [.pointer (some ⟨q, 0, none⟩)] ∧ Fr [] w w' ∧ w'.heap.size = w.heap.size + 1 := by
  go_enter Try.func48, Try.ntmps48
  go_wp2_with fail
  go_ret
  exact ⟨rfl, Blk.new w 67 [.pointer (some ⟨q, 0, none⟩)], (Fr.refl [] w).alloc _, by simp⟩
def usedB (b : List Int) : Nat := (b.getD 8 0).toNat
/-- The used bytes of the blocks f i, f (i + 1), .. (n at most), as long as they go on. -/
def goB (f : Nat → List Int) (gen : Nat) : Nat → Nat → Nat → List (List Int)
  | 0, _, _ => []
  | n + 1, i, last =>
    if four4 (f i) 0 ≠ gen ∨ four4 (f i) 4 < last ∨ 55 < usedB (f i) then []
    else ((f i).drop 9).take (usedB (f i)) :: (if usedB (f i) < 55 then [] else goB f gen n (i + 1) (four4 (f i) 4))
/-- The blocks of a generation's half. -/
def halfB (d : D) (gen : Nat) (i : Nat) : List Int := d.now.getD (placeP d gen i) []
def readB (d : D) (gen : Nat) : List (List Int) := goB (halfB d gen) gen (halfP d) 0 0
abbrev SB := (Nat × Value) × List Int
/-- What is told: a slice of a block that was read. -/
def ElB (x : SB) (W : World) : Prop := ∃ g cap b base, Own W base 5 1 (.slice (some ⟨g, 0, none⟩) 64 cap) 64 (bv b) ∧ x.1.2 = .slice (some ⟨g, 9, none⟩) x.2.length (cap - 9) ∧ x.2 = (b.drop 9).take x.2.length ∧ x.2.length ≤ 55 ∧ Byt b
theorem placeP_lt (d : D) (gen k : Nat) (h : k < halfP d) : placeP d gen k < d.now.length := by
  unfold placeP
  unfold halfP at *
  rcases Nat.mod_two_eq_zero_or_one gen with h1 | h1 <;> rw [h1] <;> omega
theorem DiskAt.frX {X : Nat → Prop} {w w' : World} {base p bb : Nat} {lv : Value} {d : D} (h : DiskAt w base p bb lv d) (f : FrX X w w') (hp : ¬ X p) (hb : ¬ X bb) (hl : ∀ k ∈ ob lv, ¬ X k) : DiskAt w' base p bb lv d := by
  obtain ⟨T, f, hT⟩ := f
  exact h.fr f (fun hm => hp (hT _ hm)) (fun hm => hb (hT _ hm)) (fun k hk hm => hl k hk (hT _ hm))
structure BRel (w : World) (X : Nat → Prop) (J : List SB → World → Prop) (base p bb q B1 : Nat) (lv tail : Value) (d : D) (gen : Nat) (life at_ count safe : Int) (k last : Nat) (pre : List SB) (wr : World) : Prop where
  le : k ≤ halfP d
  len : pre.length = k
  j : J pre wr
  da : DiskAt wr base p bb lv d
  hq : Blk wr q 103 (sto p gen life tail at_ count safe)
  b1 : Blk wr B1 67 [.pointer (some ⟨q, 0, none⟩)]
  sz : w.heap.size ≤ wr.heap.size
  e1 : readB d gen = pre.map Prod.snd ++ goB (halfB d gen) gen (halfP d - k) k last
  lt : last < 4294967296
set_option maxRecDepth 100000 in
set_option maxHeartbeats 4000000 in
theorem blks1_seq {w : World} {X : Nat → Prop} {base p bb q B1 : Nat} {lv tail : Value} {d : D} {gen : Nat} {life at_ count safe : Int} (hd : DiskAt w base p bb lv d) (hby : ∀ b ∈ d.now, Byt b) (hq : Blk w q 103 (sto p gen life tail at_ count safe)) (hg : gen < 4294967296)
    (h1 : Blk w B1 67 [.pointer (some ⟨q, 0, none⟩)]) (hX : ∀ k, X k → k ≠ p ∧ k ≠ bb ∧ k ≠ q ∧ k ≠ B1 ∧ k ∉ ob lv) :
    SeqFrN Try.prog 63 #[.pointer (some ⟨B1, 0, none⟩)] (fun x : SB => #[.int .i64 x.1.1, x.1.2]) ElB [] X 65536 (fun xs W => xs.map Prod.snd = readB d gen) w := by
  intro y J W hW hJ hY h0
  have hhalf : halfP d ≤ 32768 := by have := hd.wf.max; unfold halfP; omega
  have HHf := Lib.hid (fun (W : World) (f : Fr [] w W) => half_calls (hd.fr0 f) (hq.fr f (by simp)))
  have R0 : BRel w X J base p bb q B1 lv tail d gen life at_ count safe 0 0 [] W :=
    ⟨Nat.zero_le _, rfl, h0, hd.fr0 hW, hq.fr hW (by simp), h1.fr hW (by simp), hW.size, by simp [readB], by omega⟩
  have c1 : W.cell? ⟨B1, 0, none⟩ = some (.pointer (some ⟨q, 0, none⟩)) := R0.b1.cellAt rfl
  have HR0 := Lib.hid R0
  have HE := Lib.hid (And.intro hJ hY)
  have HW := Lib.hid hW
  have HY := Lib.hid hby
  have HXX := Lib.hid hX
  clear R0 hJ hY hW hby h0 hd hq h1 hX
  refine callsIn_of_wp Try.func63 rfl trivial ?_ rfl
  simp only [Try.ntmps63, List.size_toArray, List.length_cons, List.length_nil, Nat.reduceAdd, Nat.reduceSub, Array.replicate_succ, Array.replicate_zero, List.push_toArray, List.append_toArray, List.nil_append, List.cons_append]
  gi_wp2
  refine ⟨trivial, (callsIn_wide.2 (HHf.out W HW.out)).mono ?_⟩
  rintro e w1 ⟨rfl, rfl⟩
  gi_wp2
  gi_loopw [3, 12] (fun l i wr => ∃ k last pre, i = .int .i64 (k : Nat) ∧ l = .int .u32 (last : Nat) ∧ BRel w X J base p bb q B1 lv tail d gen life at_ count safe k last pre wr) (fun _ i _ => halfP d - (intOf i).toNat)
  case atStart => exact ⟨0, 0, [], rfl, rfl, HR0.out⟩
  case round =>
    obtain ⟨k, last, pre, rfl, rfl, hT⟩ := hrel
    have hkm := hT.le
    by_cases hlt : k < halfP d
    · have kb : (k : Int) < (halfP d : Int) := by omega
      have d1 : ∀ W', Fr [] wr W' → W'.cell? ⟨B1, 0, none⟩ = some (.pointer (some ⟨q, 0, none⟩)) := fun W' f => (hT.b1.fr f (by simp)).cellAt rfl
      have d2 : ∀ W', Fr [] wr W' → W'.cell? ⟨q, 0, none⟩ = some (.pointer (some ⟨p, 0, none⟩)) := fun W' f => (hT.hq.fr f (by simp)).cellAt rfl
      obtain ⟨b, hnb⟩ : ∃ b, d.now[placeP d gen k]? = some b := by
        have hp1 : placeP d gen k < d.now.length := placeP_lt d gen k hlt
        exact ⟨_, List.getElem?_eq_getElem hp1⟩
      have hfb : halfB d gen k = b := by unfold halfB; rw [List.getD_eq_getElem?_getD, hnb]; rfl
      have hlen : b.length = 64 := hT.da.wf.now b (List.mem_of_getElem? hnb)
      have hyb := HY.out b (List.mem_of_getElem? hnb)
      have HNB := Lib.hid hnb
      have HL := Lib.hid hlen
      have HYB := Lib.hid hyb
      have HFB := Lib.hid hfb
      have HT := Lib.hid hT
      clear hT hnb hlen hyb hfb c1
      gi_wp2
      refine wpIn_wide.2 ?_
      refine wp_region_ord (Fr [] wr) [0,1,2,3,4,5,6,7,8,9,10,11,12] [] [6, 7] [0, 3, 4] mixed (by kernel_rfl) ?_
      have hS : Fr [] wr wr.drew := (Fr.refl _ _).drew
      simp only [pairs, pickN]
      repeat (first | (refine wpO_free ?_ (by rfl) (by rfl) (fun w' => ?_) ?_; rotate_left; (go_simp; rfl); simp only [Act.put, List.setIfInBounds_toArray, List.set_cons_zero, List.set_cons_succ]) | (refine wpO_take ?_ hS (by rfl) (by rfl) (fun w' hw' => ?_) ?_; rotate_left; (go_simp; rfl); simp only [Act.put, List.setIfInBounds_toArray, List.set_cons_zero, List.set_cons_succ]) | (refine wpO_pass (by rfl) ?_; simp only [Act.put, List.setIfInBounds_toArray, List.set_cons_zero, List.set_cons_succ]))
      refine wpO_eff (by rfl) ?_
      refine wpList_callC rfl 64 #[.pointer (some ⟨q, 0, none⟩), .int .i64 k] (by first | (go_simp; done) | (go_simp; rfl)) _ (place_calls (HT.out.da.fr0 hS) (HT.out.hq.fr hS (by simp)) k (by omega)) ?_
      rintro e w2 ⟨rfl, nk, rfl⟩
      have hS2 : Fr [] wr (wr.drew.drewN nk) := hS.drewN nk
      refine ⟨_, rfl, effQ_keep hS2 ?_⟩
      simp only [Act.put, List.setIfInBounds_toArray, List.set_cons_zero, List.set_cons_succ]
      refine wpO_eff (by rfl) ?_
      refine wpList_callC rfl 62 #[.pointer (some ⟨p, 0, none⟩), .int .i64 (placeP d gen k)] (by first | (go_simp; done) | (go_simp; rfl)) _ (read_calls (HT.out.da.fr0 hS2) (placeP d gen k) b HNB.out) ?_
      rintro e w3 ⟨g, cap, rfl, O3, F3⟩
      have hS3 : Fr [] wr w3 := hS2.trans0 F3
      have HO3 := Lib.hid O3
      have HS3 := Lib.hid hS3
      refine ⟨_, rfl, effQ_keep hS3 ?_⟩
      simp only [Act.put, List.setIfInBounds_toArray, List.set_cons_zero, List.set_cons_succ]
      clear O3 F3 hS hS2
      repeat (first | (refine wpO_free ?_ (by rfl) (by rfl) (fun w' => ?_) ?_; rotate_left; (go_simp; rfl); simp only [Act.put, List.setIfInBounds_toArray, List.set_cons_zero, List.set_cons_succ]) | (refine wpO_pass (by rfl) ?_; simp only [Act.put, List.setIfInBounds_toArray, List.set_cons_zero, List.set_cons_succ]))
      refine wpO_nil ?_
      clear hS3
      have hc3 : 64 ≤ cap ∧ cap ≤ maxLen := (HO3.out.rdS (X := fun _ => False) (fun _ _ h => h)).2
      obtain ⟨hc2, hm2⟩ := hc3
      have HM := Lib.hid hm2
      have hm3 : cap ≤ 9223372036854775807 := by unfold maxLen at hm2; exact hm2
      clear hm2
      have hr3 : Rd w3 (some ⟨g, 0, none⟩) (bv b) := (HO3.out.rdS (X := fun _ => False) (fun _ _ h => h)).1.rd
      have hsl : ∀ i W', Fr [] w3 W' → Rd W' (some ⟨g, i, none⟩) (bv (b.drop i)) := fun i W' f => by
        rw [bv_drop]
        have := (hr3.fr0 f).dropN i
        simpa using this
      have HSL := Lib.hid hsl
      obtain ⟨y8, hy8⟩ : ∃ y8, b[8]? = some y8 := ⟨b[8]'(by rw [HL.out]; omega), List.getElem?_eq_getElem (by rw [HL.out]; omega)⟩
      have hyb8 := HYB.out y8 (List.mem_of_getElem? hy8)
      obtain ⟨us, rfl⟩ := Int.eq_ofNat_of_zero_le hyb8.1
      have hus : us < 256 := by omega
      have hub : usedB b = us := by unfold usedB; rw [List.getD_eq_getElem?_getD, hy8]; rfl
      have HUB := Lib.hid hub
      have e8 : ∀ W', Fr [] w3 W' → W'.cell? ⟨g, 8, none⟩ = some (.int .u8 us) := fun W' f => by
        obtain ⟨b1, o1, he, hr⟩ := (hr3.fr0 f) (fun h0 => by have := congrArg List.length h0; rw [bv_length, HL.out] at this; simp at this)
        simp only [Option.some.injEq, Addr.mk.injEq] at he
        obtain ⟨rfl, rfl, _⟩ := he
        have := hr 8 (.int .u8 us) (by rw [bv_get, hy8]; rfl)
        simpa using this
      have hx0 := four4_lt HYB.out 0
      have hx4 := four4_lt HYB.out 4
      have hc4 : ¬ cap = 4 := by omega
      have hc9 : ¬ cap = 9 := by omega
      clear hsl hr3 hy8 hyb8 hub
      gi_wp2
      refine wpIn_wide.2 ?_
      refine wp_region_ord (Fr [] w3) [0,2,3,5,6,7,8,1,4,9,10,11] [] [1, 4] [7] mixed (by kernel_rfl) ?_
      have hS : Fr [] w3 w3.drew := (Fr.refl _ _).drew
      simp only [pairs, pickN]
      repeat (first | (refine wpO_free ?_ (by rfl) (by rfl) (fun w' => ?_) ?_; rotate_left; (go_simp; rfl); simp only [Act.put, List.setIfInBounds_toArray, List.set_cons_zero, List.set_cons_succ]) | (refine wpO_take ?_ hS (by rfl) (by rfl) (fun w' hw' => ?_) ?_; rotate_left; (go_simp; rfl); simp only [Act.put, List.setIfInBounds_toArray, List.set_cons_zero, List.set_cons_succ]) | (refine wpO_pass (by rfl) ?_; simp only [Act.put, List.setIfInBounds_toArray, List.set_cons_zero, List.set_cons_succ]))
      refine wpO_eff (by rfl) ?_
      refine wpList_callC rfl 49 #[.slice (some ⟨g, 0, none⟩) 64 cap] (by first | (go_simp; done) | (go_simp; rfl)) _ (four4_calls (b := b) (i := 0) (HSL.out 0 _ hS) HYB.out (by rw [HL.out]; omega) (by omega) hc2 HM.out) ?_
      rintro e w4 ⟨rfl, nk1, rfl⟩
      refine ⟨_, rfl, effQ_keep (hS.drewN nk1) ?_⟩
      simp only [Act.put, List.setIfInBounds_toArray, List.set_cons_zero, List.set_cons_succ]
      refine wpO_eff (by rfl) ?_
      refine wpList_callC rfl 49 #[.slice (some ⟨g, 4, none⟩) 60 (cap - 4)] (by first | (go_simp; done) | (go_simp; rfl)) _ (four4_calls (b := b) (i := 4) (HSL.out 4 _ (hS.drewN nk1)) HYB.out (by rw [HL.out]; omega) (by omega) (by omega) (by have := HM.out; omega)) ?_
      rintro e w5 ⟨rfl, nk2, rfl⟩
      have hS4 := (hS.drewN nk1).drewN nk2
      refine ⟨_, rfl, effQ_keep hS4 ?_⟩
      simp only [Act.put, List.setIfInBounds_toArray, List.set_cons_zero, List.set_cons_succ]
      repeat (first | (refine wpO_free ?_ (by rfl) (by rfl) (fun w' => ?_) ?_; rotate_left; (go_simp; rfl); simp only [Act.put, List.setIfInBounds_toArray, List.set_cons_zero, List.set_cons_succ]) | (refine wpO_pass (by rfl) ?_; simp only [Act.put, List.setIfInBounds_toArray, List.set_cons_zero, List.set_cons_succ]))
      refine wpO_nil ?_
      have HS5 := Lib.hid (HS3.out.trans0 hS4)
      have HS4 := Lib.hid hS4
      clear hS4 hS
      generalize (w3.drew.drewN nk1).drewN nk2 = w5 at *
      have g1 : ∀ W', Fr [] w5 W' → W'.cell? ⟨B1, 0, none⟩ = some (.pointer (some ⟨q, 0, none⟩)) := fun W' f => d1 W' (HS5.out.trans0 f)
      have c1 := g1 w5 (Fr.refl _ _)
      have c2 : w5.cell? ⟨q, 1, none⟩ = some (.int .u32 gen) := (HT.out.hq.fr HS5.out (by simp)).cellAt rfl
      clear g1 d1 d2 e8
      obtain ⟨m, hm⟩ : ∃ m, halfP d - k = m + 1 := ⟨halfP d - k - 1, by omega⟩
      have e1 := HT.out.e1
      rw [hm, goB, HFB.out, HUB.out] at e1
      have J5 := HE.out.1 pre _ _ HT.out.j HS5.out
      by_cases hgo : four4 b 0 = gen ∧ last ≤ four4 b 4 ∧ us ≤ 55
      · rw [if_neg (by omega)] at e1
        have hlx : ((b.drop 9).take us).length = us := by rw [List.length_take, List.length_drop, HL.out]; omega
        obtain ⟨fn, tmps, assign, body, hy, hR⟩ := HE.out.2 pre ((k, .slice (some ⟨g, 9, none⟩) us (cap - 9)), (b.drop 9).take us) w5 J5 ⟨g, cap, b, _, HO3.out.fr0 HS4.out, by dsimp only; rw [hlx], by dsimp only; rw [hlx], by dsimp only; rw [hlx]; exact hgo.2.2, HYB.out⟩ (by have := HT.out.len; omega)
        dsimp only at hy
        have hb1 : ((four4 b 0 : Int) != (gen : Int)) = false := by rw [hgo.1]; simp
        have hgo2 := hgo.2.1
        have hgo3 : (us : Int) ≤ 55 := by omega
        have HGO := Lib.hid hgo
        have HRR := Lib.hid hR
        have HE1 := Lib.hid e1
        have HM1 := Lib.hid hm
        clear hR hgo e1 J5 hm hlx
        gi_wp2
        refine HRR.out.mono ?_
        rintro e w6 ⟨rfl, hJ6, hk6⟩
        have hBt := HT.out.len
        have hXp := HXX.out
        have hda := (HT.out.da.fr0 HS5.out).frX hk6 (fun h => (hXp _ h).1 rfl) (fun h => (hXp _ h).2.1 rfl) (fun g hg h => (hXp _ h).2.2.2.2 hg)
        have hhq := (HT.out.hq.fr HS5.out (by simp)).frX hk6 (fun h => (hXp _ h).2.2.1 rfl)
        have hb1' := (HT.out.b1.fr HS5.out (by simp)).frX hk6 (fun h => (hXp _ h).2.2.2.1 rfl)
        have hsz6 : w.heap.size ≤ w6.heap.size := by have := HT.out.sz; have := HS5.out.size; have := hk6.size; omega
        have HA := Lib.hid (And.intro hJ6 (And.intro hda (And.intro hhq (And.intro hb1' hsz6))))
        clear hJ6 hk6 hXp hda hhq hb1' hy c1 c2 hb1 hgo2
        by_cases h55 : us < 55
        · have h55' : (us : Int) < 55 := by omega
          have HE2 : Hid (readB d gen = List.map Prod.snd pre ++ [(b.drop 9).take us]) := Lib.hid (by rw [HE1.out, if_pos h55])
          gi_wp2
          refine bodyPost_ret (results_none rfl _ _ _) rfl ?_
          exact ⟨⟨_, rfl⟩, _, HA.out.1, by rw [HE2.out]; simp⟩
        · have h55' : ¬ (us : Int) < 55 := by omega
          have R6 := Lib.hid (show BRel w X J base p bb q B1 lv tail d gen life at_ count safe (k + 1) (four4 b 4) (pre ++ [((k, .slice (some ⟨g, 9, none⟩) us (cap - 9)), (b.drop 9).take us)]) w6 from
            ⟨hlt, by rw [List.length_append, hBt]; rfl, HA.out.1, HA.out.2.1, HA.out.2.2.1, HA.out.2.2.2.1, HA.out.2.2.2.2, by rw [HE1.out, if_neg h55, show halfP d - (k + 1) = m by have := HM1.out; omega]; simp, hx4⟩)
          gi_wp2
          go_roundw
          case rel => exact ⟨k + 1, _, _, by go_num, rfl, R6.out⟩
          case measure => simp [intOf]; omega
      · rw [if_pos (by omega)] at e1
        have HGO := Lib.hid hgo
        have HE1 := Lib.hid e1
        have HM1 := Lib.hid hm
        have HJ5 := Lib.hid J5
        clear hgo e1 hm J5
        gi_wp2
        all_goals first
          | (exfalso; have := HGO.out; omega)
          | exact bodyPost_ret (results_none rfl _ _ _) rfl ⟨⟨_, rfl⟩, pre, HJ5.out, by rw [HE1.out, List.append_nil]⟩
    · obtain rfl : k = halfP d := by omega
      have HT := Lib.hid hT
      clear hT
      gi_wp2
      go_end0
      refine ⟨⟨_, rfl⟩, pre, HT.out.j, ?_⟩
      rw [HT.out.e1, Nat.sub_self]
      simp [goB]
end Go.Fur
