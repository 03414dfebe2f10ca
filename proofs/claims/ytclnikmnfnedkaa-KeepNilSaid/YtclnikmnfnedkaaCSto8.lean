/- A store is opened: contract. -/
import Derived.Test.YtclnikmnfnedkaaCKp2
import Derived.Deep.CutBlock
import Derived.IntWalk
import Derived.Deep.DeepCutAuto
namespace Go.Fur
open Go Go.RowKit Go.Proofs
attribute [local go_sem] Oper.semAt_some
set_option linter.unusedVariables false
set_option linter.unusedSimpArgs false
/-- What was found, and how it lies: the snapshot's row from lo on, the records' from m1 on, the store's tail from m2 on. -/
structure OpenAt (w : World) (base p bb q : Nat) (vs vr tl : Value) (d : D) (o : Opn) (lo m1 m2 : Nat) : Prop where
  da : DiskAt w base p bb (.slice none 0 0) d.calm
  hq : Blk w q 103 (sto p o.gen o.life tl o.at_ o.recs.length o.recs.length)
  tl : Own w m2 5 1 tl o.tail.length (bv o.tail)
  sn : Own w lo 5 1 vs o.snap.length (bv o.snap)
  rs : ∃ us, Own w m1 33 1 vr o.recs.length us ∧ us.length = o.recs.length ∧ ∀ (i : Nat) v l, us[i]? = some v → o.recs[i]? = some l → Own w m1 5 1 v l.length (bv l) ∧ ∀ k ∈ ob v, k < m2
  ql : lo ≤ q ∧ q < m1
  sl : ∀ k ∈ ob vs, k < m1
  rl : ∀ k ∈ ob vr, k < m2
  l1 : lo ≤ m1
  l2 : m1 ≤ m2
/-- All bytes so far. -/
def AllY (w6 : World) (c : Nat) (pre : List SB) (W : World) : Prop :=
  ∃ v, Blk W c 33 [v] ∧ Own W w6.heap.size 5 1 v (pre.map Prod.snd).flatten.length (bv (pre.map Prod.snd).flatten) ∧ Fr [c] w6 W ∧ ∀ x ∈ pre, x.2.length ≤ 55
theorem flat_le : ∀ {pre : List SB}, (∀ x ∈ pre, x.2.length ≤ 55) → (List.map Prod.snd pre).flatten.length ≤ 55 * pre.length
  | [], _ => by simp
  | x :: pre, h => by
    have h1 := flat_le (fun y hy => h y (List.mem_cons_of_mem _ hy))
    have h2 := h x (by simp)
    simp only [List.map_cons, List.flatten_cons, List.length_append, List.length_cons]
    omega
theorem ElB_abi {B : Nat} : Abi B [] ElB := by
  rintro x T A C ⟨g, cap, b, base, ho, h1⟩ f hT
  refine ⟨g, cap, b, base, ho.fr f (fun k hk hm => ?_), h1⟩
  rcases hT k hm with h | ⟨_, o, ho1, ho2⟩
  · cases h
  · obtain ⟨cur, hc⟩ := ho.blkOf hk
    unfold Blk at hc
    rw [ho1] at hc
    cases hc
    cases ho2
theorem rootP_lt {now : List (List Int)} (hy : ∀ b ∈ now, Byt b) : (rootP now).1 < 4294967296 := by
  have hs : ∀ r n, r.1 < 4294967296 → (rootN now r n).1 < 4294967296 := fun r n hr => by
    unfold rootN
    split
    · rename_i b hb
      unfold rootG
      split
      · exact four4_lt (hy b (List.mem_of_getElem? hb)) 8
      · exact hr
    · exact hr
  exact hs _ 1 (hs _ 0 (by simp [rootK]))
theorem readB_len (d : D) (gen : Nat) : (readB d gen).length ≤ halfP d := by
  have h : ∀ n i l, (goB (halfB d gen) gen n i l).length ≤ n := by
    intro n
    induction n with
    | zero => intro i l; simp [goB]
    | succ n ih =>
      intro i l
      unfold goB
      split
      · simp
      · rw [List.length_cons]
        split
        · simp
        · exact Nat.succ_le_succ (ih _ _)
  exact h _ _ _
theorem Byt.flatten {l : List (List Int)} (h : ∀ b ∈ l, Byt b) : Byt l.flatten := fun x hx => by
  obtain ⟨b, hb, hx⟩ := List.mem_flatten.1 hx
  exact h b hb x hx
theorem allP_byt {d : D} (hy : ∀ b ∈ d.now, Byt b) : Byt (allP d) := by
  have h : ∀ gen n i l, ∀ b ∈ goB (halfB d gen) gen n i l, Byt b := by
    intro gen n
    induction n with
    | zero => intro i l b hb; simp [goB] at hb
    | succ n ih =>
      intro i l b hb
      unfold goB at hb
      split at hb
      · cases hb
      · rcases List.mem_cons.1 hb with rfl | hb
        · refine (Byt.drop ?_ 9).take _
          unfold halfB
          rw [List.getD_eq_getElem?_getD]
          cases hq : d.now[placeP d gen i]? with
          | none => exact Byt.nil
          | some b => exact hy b (List.mem_of_getElem? hq)
        · split at hb
          · cases hb
          · exact ih _ _ b hb
  exact Byt.flatten (h _ _ _ _)
theorem build_found (b : Bool) : ∀ W, (Instr.build 85 #[(0, .bool b)]).run Try.prog W = .ok (.agg #[.bool b, .slice none 0 0, .slice none 0 0]) W := fun W => by kernel_rfl
theorem info_bytes : (Try.prog.info? 33).map (fun i => (i.zero, i.size, i.bytes)) = some (some (.slice none 0 0), 1, 24) := by kernel_rfl
theorem build_store (p : Nat) (x : Int) : ∀ W, (Instr.build 103 #[(0, .pointer (some ⟨p, 0, none⟩)), (2, .int .u32 x)]).run Try.prog W = .ok (.agg #[.pointer (some ⟨p, 0, none⟩), .int .u32 0, .int .u32 x, .slice none 0 0, .int .i64 0, .int .i64 0, .int .i64 0]) W := fun W => by kernel_rfl
/-- What holds when the length of the snapshot is known. -/
structure OpenM (w w6 : World) (d : Fur.D) (p gen q c g D n : Nat) (A : List Int) (wh : Bool) (v : Value) (wx : World) : Prop where
  hop : openP d = openA gen (lifeP d) wh n A
  hn : n ≤ A.length
  ha : A.length ≤ 1802240
  hy : Byt A
  hc : Blk wx c 33 [v]
  ho : Own wx w6.heap.size 5 1 v A.length (bv A)
  hg : Blk wx g 85 [.bool wh, .slice none 0 0, .slice none 0 0]
  hq : Blk wx q 103 (sto p gen (lifeP d : Nat) (.slice none 0 0) 0 0 0)
  hb : Blk wx w.heap.size 85 [.bool false, .slice none 0 0, .slice none 0 0]
  hf : Fr [] w wx
  hk : wx.heap[D]? = some (.deferred (some []))
def OpenR (w w6 : World) (d : Fur.D) (p gen q c g D : Nat) (s7 : Value) (wx : World) : Prop := ∃ n A wh v, s7 = .int .i64 (n : Nat) ∧ OpenM w w6 d p gen q c g D n A wh v wx
theorem Rd.cast0 {w : World} {g o : Nat} {cs : List Value} (h : Rd w (some ⟨g, 0 + o, none⟩) cs) : Rd w (some ⟨g, o, none⟩) cs := by rwa [Nat.zero_add] at h
/-- What holds when the records 'done' have been found. -/
structure OpenL (w w6 : World) (d : Fur.D) (p gen q c g D n m0 m1 : Nat) (A : List Int) (wh : Bool) (v vs : Value) (done : List (List Int)) (wx : World) : Prop where
  hc : Blk wx c 33 [v]
  ho : Own wx w6.heap.size 5 1 v A.length (bv A)
  sn : Own wx m0 5 1 vs n (bv (A.take n))
  hq : Blk wx q 103 (sto p gen (lifeP d : Nat) (.slice none 0 0) 0 0 0)
  hb : Blk wx w.heap.size 85 [.bool false, .slice none 0 0, .slice none 0 0]
  hf : Fr [] w wx
  hk : wx.heap[D]? = some (.deferred (some []))
  rs : ∃ vr us, Blk wx g 85 [.bool wh, vs, vr] ∧ Own wx m1 33 1 vr done.length us ∧ us.length = done.length ∧ ∀ (i : Nat) v l, us[i]? = some v → done[i]? = some l → Own wx m1 5 1 v l.length (bv l)
  sz : m1 ≤ wx.heap.size
theorem OpenL.drewN {w w6 : World} {d : Fur.D} {p gen q c g D n m0 m1 : Nat} {A : List Int} {wh : Bool} {v vs : Value} {done : List (List Int)} {wx : World} (h : OpenL w w6 d p gen q c g D n m0 m1 A wh v vs done wx) (k : Nat) : OpenL w w6 d p gen q c g D n m0 m1 A wh v vs done (wx.drewN k) := by
  have f := (Fr.refl [] wx).drewN k
  obtain ⟨vr, us, h1, h2, h3, h4⟩ := h.rs
  exact ⟨h.hc.drewN k, h.ho.fr0 f, h.sn.fr0 f, h.hq.drewN k, h.hb.drewN k, h.hf.trans0 f, h.hk, ⟨vr, us, h1.drewN k, h2.fr0 f, h3, fun i v l hu hl => (h4 i v l hu hl).fr0 f⟩, h.sz⟩
def OpenK (w w6 : World) (d : Fur.D) (p gen q c g D n m0 m1 : Nat) (A : List Int) (wh : Bool) (v vs : Value) (s13 : Value) (wx : World) : Prop :=
  ∃ k f e done, s13 = .int .i64 (e : Nat) ∧ f + k = A.length + 1 ∧ 4 * k ≤ e ∧ e ≤ A.length ∧ done.length = k ∧ recsP A (A.length + 1) n = (done ++ (recsP A f e).1, (recsP A f e).2) ∧ OpenL w w6 d p gen q c g D n m0 m1 A wh v vs done wx
def OpenE (w w6 : World) (d : Fur.D) (p gen q c g D n m0 m1 : Nat) (A : List Int) (wh : Bool) (v vs : Value) (s13 : Value) (wx : World) : Prop :=
  ∃ e done, s13 = .int .i64 (e : Nat) ∧ e ≤ A.length ∧ done.length ≤ A.length + 1 ∧ recsP A (A.length + 1) n = (done, e) ∧ OpenL w w6 d p gen q c g D n m0 m1 A wh v vs done wx
set_option maxRecDepth 100000 in
set_option maxHeartbeats 8000000 in
theorem open_calls {w : World} {base p bb : Nat} {lv : Value} {d : D} (h : DiskAt w base p bb lv d) (hby : d.byt) :
    Calls Try.prog 32 #[.pointer (some ⟨p, 0, none⟩)] w fun e w' => ∃ q vs vr tl m1 m2, e = .returned (.tuple #[.pointer (some ⟨q, 0, none⟩), .agg #[.bool (openP d).whole, vs, vr], .int .i64 0]) ∧
      OpenAt w' base p bb q vs vr tl d (openP d) w.heap.size m1 m2 ∧ Fr [p] w w' := by
  have HEl := Lib.hid (fun (W : World) (f : Fr [] w W) => eldest_calls (h.fr0 f) hby.now)
  have HRo := Lib.hid (fun (W : World) (f : Fr [] w W) => root_calls (h.fr0 f) hby.now)
  have HH := Lib.hid h
  have HY := Lib.hid hby
  clear h hby
  refine (callsIn_wide (n := 3)).1 ?_
  refine callsIn_of_wp_marks Try.func32 rfl trivial ?_ rfl
  simp only [Try.ntmps32, List.size_toArray, List.length_cons, List.length_nil, Nat.reduceAdd, Nat.reduceSub, Array.replicate_succ, Array.replicate_zero, List.push_toArray, List.append_toArray, List.nil_append, List.cons_append]
  refine wpIn_wide.2 ?_
  go_wp2_with fail
  go_step3
  go_wp2_with fail
  have hsz0 := World.size_alloc w (.cells #[.bool false, .slice none 0 0, .slice none 0 0] 85)
  have B0 : Blk (w.alloc (.cells #[.bool false, .slice none 0 0, .slice none 0 0] 85)) w.heap.size 85 [.bool false, .slice none 0 0, .slice none 0 0] := Blk.new w 85 [.bool false, .slice none 0 0, .slice none 0 0]
  have F0 := (Fr.refl [] w).alloc (.cells #[.bool false, .slice none 0 0, .slice none 0 0] 85)
  generalize w.alloc (.cells #[.bool false, .slice none 0 0, .slice none 0 0] 85) = w0 at *
  refine (HEl.out w0 F0).mono ?_
  rintro e w1 ⟨rfl, F1⟩
  have F01 := F0.trans0 F1
  have B01 := B0.fr F1 (by simp)
  have hlf : (((eldL d (d.now.length - 2) : Nat) : Int) + 1) % 4294967296 = ((lifeP d : Nat) : Int) := by unfold lifeP; omega
  rw [hlf]
  have hz01 : w.heap.size < w1.heap.size := B01.lt
  clear B0 F0 F1 hlf hsz0
  have hbs : ∀ W, (Instr.build 103 #[(0, .pointer (some ⟨p, 0, none⟩)), (2, .int .u32 (lifeP d : Nat))]).run Try.prog W = .ok (.agg #[.pointer (some ⟨p, 0, none⟩), .int .u32 0, .int .u32 (lifeP d : Nat), .slice none 0 0, .int .i64 0, .int .i64 0, .int .i64 0]) W := build_store p _
  dsimp only
  go_wp2_with fail
  have hsz1 := World.size_alloc w1 (.cells #[.pointer (some ⟨p, 0, none⟩), .int .u32 0, .int .u32 (lifeP d : Nat), .slice none 0 0, .int .i64 0, .int .i64 0, .int .i64 0] 103)
  have Q1 : Blk (w1.alloc (.cells #[.pointer (some ⟨p, 0, none⟩), .int .u32 0, .int .u32 (lifeP d : Nat), .slice none 0 0, .int .i64 0, .int .i64 0, .int .i64 0] 103)) w1.heap.size 103 (sto p 0 (lifeP d : Nat) (.slice none 0 0) 0 0 0) := Blk.new w1 103 _
  have F1 := F01.alloc (.cells #[.pointer (some ⟨p, 0, none⟩), .int .u32 0, .int .u32 (lifeP d : Nat), .slice none 0 0, .int .i64 0, .int .i64 0, .int .i64 0] 103)
  have B1 := B01.alloc (.cells #[.pointer (some ⟨p, 0, none⟩), .int .u32 0, .int .u32 (lifeP d : Nat), .slice none 0 0, .int .i64 0, .int .i64 0, .int .i64 0] 103)
  generalize w1.alloc (.cells #[.pointer (some ⟨p, 0, none⟩), .int .u32 0, .int .u32 (lifeP d : Nat), .slice none 0 0, .int .i64 0, .int .i64 0, .int .i64 0] 103) = w2 at *
  clear F01 B01 hbs
  obtain ⟨q, hqq⟩ : ∃ q, w1.heap.size = q := ⟨_, rfl⟩
  rw [hqq] at Q1 hz01 hsz1 ⊢
  clear hqq w1 w0
  refine (HRo.out w2 F1).mono ?_
  rintro e w3 ⟨rfl, F3⟩
  have F03 := F1.trans0 F3
  have B3 := B1.fr F3 (by simp)
  have Q3 := Q1.fr F3 (by simp)
  clear F1 B1 Q1 F3 hsz1
  have HQ3 := Lib.hid Q3
  have HB3 := Lib.hid B3
  have HF3 := Lib.hid F03
  clear Q3 B3 F03
  obtain ⟨gen, n0, wh, hroot⟩ : ∃ gen n0 wh, rootP d.now = (gen, n0, wh) := ⟨_, _, _, rfl⟩
  rw [hroot]
  have HRT := Lib.hid hroot
  clear hroot
  dsimp only
  go_wp2_with (first
    | (refine wpList_store1 rfl _ _ _ rfl q 1 (.int .u32 gen) (by rfl) (by rfl) rfl 103 _ HQ3.out (by simp [sto]) (by kernel_rfl) rfl ?_; intro w4 Q4 F4 S4; have HQ4 := Lib.hid (show Blk w4 q 103 (sto p gen (lifeP d : Nat) (.slice none 0 0) 0 0 0) from Q4); have HF4 := Lib.hid F4; clear Q4 F4 S4))
  have hsz4 := World.size_alloc w4 (.cells #[.slice none 0 0] 33)
  have C5 : Blk (w4.alloc (.cells #[.slice none 0 0] 33)) w4.heap.size 33 [.slice none 0 0] := Blk.new w4 33 _
  have F5 := (HF3.out.trans (S' := [q]) HF4.out (fun k hk hlt => by rw [List.mem_singleton.1 hk] at hlt; omega)).alloc (.cells #[.slice none 0 0] 33)
  have Q5 := HQ4.out.alloc (.cells #[.slice none 0 0] 33)
  have B5 := (HB3.out.fr HF4.out (by rw [List.mem_singleton]; omega)).alloc (.cells #[.slice none 0 0] 33)
  have hqlt := HQ4.out.lt
  generalize w4.alloc (.cells #[.slice none 0 0] 33) = w5 at *
  obtain ⟨c, hcc⟩ : ∃ c, w4.heap.size = c := ⟨_, rfl⟩
  rw [hcc] at C5 hqlt hsz4 ⊢
  clear HQ3 HB3 HF3 HQ4 HF4 hcc
  clear w4 w3 w2
  refine (blks_calls w5 q).mono ?_
  rintro e w6 ⟨rfl, X6, F6, S6⟩
  rw [hsz4] at X6 S6 ⊢
  have C6 := C5.fr F6 (by simp)
  have Q6 := Q5.fr F6 (by simp)
  have B6 := B5.fr F6 (by simp)
  have F06 := F5.trans0 F6
  clear C5 F5 Q5 B5 F6 hsz4
  clear w5
  go_wp2_with fail
  have hplt := HH.out.hp.lt
  have hglt : gen < 4294967296 := by
    have := rootP_lt HY.out.now
    rwa [HRT.out] at this
  have hblt := HH.out.hb.lt
  have hllt : ∀ k ∈ ob lv, k < w.heap.size := fun k hk => (HH.out.hl.lt hk).2
  refine (wpIn_wide (n := 3)).1 ?_
  refine wpIn_rangeFrN (gf := 63) (lb := #[.pointer (some ⟨c + 1, 0, none⟩)]) rfl (enters_of Try.func63 (by kernel_rfl) rfl) (enc := fun x : SB => #[.int .i64 x.1.1, x.1.2]) (El := ElB) (S := []) (X := fun k => k = c ∨ w6.heap.size ≤ k) (N := 65536) (End := fun xs _ => xs.map Prod.snd = readB d gen) (fun _ => rfl) (by simp) (fun k hk => .inr hk)
    (blks1_seq (HH.out.fr0 F06) HY.out.now Q6 hglt X6 (fun k hk => ?far)) (AllY w6 c) ?hI ElB_abi (fun _ _ _ _ h _ _ => h) (fun x a' _ => a' = { tmps := #[.pointer (some ⟨p, 0, none⟩), undef, .pointer none, .pointer (some ⟨w.heap.size, 0, none⟩), .int .i64 0, .pointer (some ⟨q, 0, none⟩), .int .u32 gen, .int .i64 n0, .bool wh, .pointer (some ⟨c, 0, none⟩), undef, x.1.2, undef, undef, undef, .pointer (some ⟨p, 0, none⟩), .bool false, undef, .pointer (some ⟨p, 0, none⟩), .pointer (some ⟨p, 0, none⟩), .int .u32 (lifeP d : Nat), .agg #[.pointer (some ⟨p, 0, none⟩), .int .u32 0, .int .u32 (lifeP d : Nat), .slice none 0 0, .int .i64 0, .int .i64 0, .int .i64 0], .pointer (some ⟨q, 0, none⟩), .tuple #[.int .u32 gen, .int .i64 n0, .bool wh], .pointer (some ⟨p, 0, none⟩), .tuple #[.int .u32 gen, .int .i64 n0, .bool wh], .int .u32 gen, .int .i64 n0, .bool wh, .pointer (some ⟨q, 0, none⟩), .int .u32 gen, .pointer (some ⟨q, 0, none⟩), .pointer (some ⟨q, 1, none⟩), .pointer (some ⟨q, 0, none⟩), .func (.func 63) #[] #[.pointer (some ⟨c + 1, 0, none⟩)], .int .i64 x.1.1, x.1.2, undef, undef, undef, undef, undef, undef, undef, undef, undef, undef, undef, undef, undef, undef, undef, undef, undef, undef, undef, undef, undef, undef, undef, undef, undef, undef, undef, undef, undef, undef, undef, undef, undef, undef, undef, undef, undef, undef, undef, undef, undef, undef, undef, undef, undef, undef, undef, undef, undef, undef, undef, undef, undef, undef, undef, undef, undef, undef, undef, undef, undef, undef, undef, undef, undef, undef, undef, undef, undef, undef, undef, undef, undef, undef, undef, undef, undef, undef, undef, undef, undef, undef, undef, undef, undef, undef], defers := [] })
    (fun _ _ _ _ _ h _ _ => h) ⟨_, C6, Own.nil _ _ _ _, Fr.refl _ _, by simp⟩ ?assign ?body ?done
  case far =>
    have hl1 : k ∈ ob lv → k < w.heap.size := fun hm => hllt k hm
    have hk2 : q < k ∧ k ≠ c + 1 := by omega
    exact ⟨by omega, by omega, by omega, by omega, fun hm => by have := hl1 hm; omega⟩
  case hI =>
    rintro pre T A C ⟨v, hb, ho, hf, hle⟩ hT hk
    have hcell : ∀ k t cs, Blk A k t cs → k ∉ T := fun k t cs hbk hm => by
      rcases hk k hm with h | ⟨_, o, h1, h2⟩
      · cases h
      · unfold Blk at hbk
        rw [h1] at hbk
        cases hbk
        cases h2
    refine ⟨v, hb.fr hT (hcell _ _ _ hb), ho.fr hT (fun g hg => ?_), hf.trans hT (fun k hm hlt => ?_), hle⟩
    · obtain ⟨cur, hcur⟩ := ho.blkOf hg
      exact hcell _ _ _ hcur
    · rcases hk k hm with h | h
      · cases h
      · exact absurd h.1 (by omega)
  case assign =>
    intro l x W hx
    clear hx
    gi_wp2
    exact ⟨Fr.refl _ _, by first | rfl | trivial⟩
  case body =>
    rintro l pre ⟨⟨x1, xv⟩, x2⟩ a₁ W ⟨v, hb, ho, hf, hle⟩ ⟨g, cap, b, base', hO, hxe, hxl, h55, hyb⟩ rfl hlen
    dsimp only at hxe hxl h55 ⊢
    have hrx : Rd W (some ⟨g, 9, none⟩) (bv x2) := by
      have h1 := ((hO.rdS (X := fun _ => False) (fun _ _ h => h)).1.rd.dropN 9).takeN x2.length
      rw [← bv_drop, ← bv_take, ← hxl] at h1
      simpa using h1
    subst hxe
    obtain ⟨a1, k1, rfl, g1, g2, g3⟩ := ho.form
    have c0 : W.cell? ⟨c, 0, none⟩ = some (.slice a1 (List.map Prod.snd pre).flatten.length k1) := hb.cellAt rfl
    have hfl : (List.map Prod.snd pre).flatten.length ≤ 55 * pre.length := flat_le hle
    have hcw := hf.size
    have HI := Lib.hid (And.intro hb (And.intro ho (And.intro hf hle)))
    have HRX := Lib.hid hrx
    obtain ⟨PL, hPL⟩ : ∃ PL, (List.map Prod.snd pre).flatten = PL := ⟨_, rfl⟩
    rw [hPL] at HI c0 hfl
    have HPL := Lib.hid hPL
    clear hb ho hf hle hrx hO hxl hyb g1 g2 g3 hPL
    refine wpIn_block ?_
    refine wpIn_region_lit ?_
    refine wpListIn_of_wpList (by rintro ⟨a, w, h⟩; exact h) _ _ _ (by intro o ho c; simp only [List.mem_cons, List.not_mem_nil, or_false] at ho; rcases ho with rfl | rfl | rfl | rfl <;> simp) ?_
    go_wp2_with (first
      | (refine wpList_appB rfl _ _ 33 33 rfl w6.heap.size 5 5 .u8 1 Try.underlying33 Try.underlying33 info_byte _ PL.length (bv PL) (by rfl) HI.out.2.1 (some ⟨g, 9, none⟩) x2.length _ (bv x2) (by rfl) HRX.out (by simp) (bv_one _) (by simp only [maxLen]; omega) (by omega) (by omega) ?_; intro v4 w4 O4 F4 K4 _; obtain ⟨a4, k4, hv4, q1, q2, q3⟩ := O4.form; subst hv4; have HO4 := Lib.hid O4; have HF4 := Lib.hid F4; have HB4 := Lib.hid (HI.out.1.fr F4 (fun hm => by have := (HI.out.2.1.lt hm).1; omega)); clear O4 F4 K4 q1 q2 q3)
      | (refine wpList_store1 rfl 33 _ _ rfl c 0 (.slice a4 (PL.length + x2.length) k4) (by rfl) (by rfl) rfl 33 _ HB4.out (by simp) (by kernel_rfl) rfl ?_; intro w5 B5 F5 S5))
    have hob4 : ∀ k ∈ ob (.slice a4 (PL.length + x2.length) k4), k ∉ [c] := fun k hk hm => by
      rw [List.mem_singleton.1 hm] at hk
      have := (HO4.out.lt hk).1
      omega
    have FT : Fr (c :: ob (.slice a1 PL.length k1)) W w5 := (HF4.out.mono (fun k hk _ => List.mem_cons_of_mem _ hk)).trans F5 (fun k hk _ => by rw [List.mem_singleton.1 hk]; exact List.mem_cons_self)
    refine ⟨⟨_, FT, fun k hk => ?_⟩, .slice a4 (PL.length + x2.length) k4, by simpa using B5, ?_, HI.out.2.2.1.trans FT (fun k hk hlt => ?_), fun x hx => ?_⟩
    · rcases List.mem_cons.1 hk with rfl | hk
      · exact ⟨.inl rfl, _, _, HI.out.1⟩
      · obtain ⟨cur, hcur⟩ := HI.out.2.1.blkOf hk
        exact ⟨.inr (HI.out.2.1.lt hk).1, _, _, hcur⟩
    · have h1 := HO4.out.fr F5 hob4
      rw [← bv_append] at h1
      simp only [List.map_append, List.map_cons, List.map_nil, List.flatten_append, List.flatten_cons, List.flatten_nil, List.append_nil, HPL.out, List.length_append]
      exact h1
    · rcases List.mem_cons.1 hk with rfl | hk
      · simp
      · have := (HI.out.2.1.lt hk).1
        omega
    · rcases List.mem_append.1 hx with hx | hx
      · exact HI.out.2.2.2 x hx
      · rw [List.mem_singleton.1 hx]
        exact h55
  case done =>
    rintro D xs W hD hxs ⟨v, hb, ho, hf, hle⟩ hK
    have hA0 : (List.map Prod.snd xs).flatten = allP d := by rw [hxs]; unfold allP; rw [HRT.out]
    have hfl : (List.map Prod.snd xs).flatten.length ≤ 55 * xs.length := flat_le hle
    have hxl : xs.length ≤ 32768 := by
      have h1 := congrArg List.length hxs
      rw [List.length_map] at h1
      rw [h1]
      exact Nat.le_trans (readB_len d gen) (by have := HH.out.wf.max; unfold halfP; omega)
    rw [hA0] at ho hfl
    have hal : (allP d).length ≤ 1802240 := by omega
    have hyA : Byt (allP d) := allP_byt HY.out.now
    have Q7 := Q6.fr hf (by rw [List.mem_singleton]; omega)
    have B7 := B6.fr hf (by rw [List.mem_singleton]; omega)
    have F07 : Fr [] w W := F06.trans hf (fun k hk hlt => by rw [List.mem_singleton.1 hk] at hlt; omega)
    have hop : openP d = if (allP d).length < n0 then openA gen (lifeP d) false 0 [] else openA gen (lifeP d) wh n0 (allP d) := by unfold openP; rw [HRT.out]
    have hcl := hb.lt
    have HHC := Lib.hid (And.intro hb (And.intro ho (And.intro Q7 (And.intro B7 (And.intro F07 hK)))))
    have HYA := Lib.hid hyA
    have HOP := Lib.hid hop
    clear hxs hb ho hf hle hK hA0 hxl hyA Q7 B7 F07 hop C6 Q6 B6 F06 X6
    generalize allP d = A0 at *
    dsimp only
    obtain ⟨a1, k1, hv, g1, g2, g3⟩ := HHC.out.2.1.form
    subst hv
    have c0 : W.cell? ⟨c, 0, none⟩ = some (.slice a1 A0.length k1) := HHC.out.1.cellAt rfl
    clear g1 g2 g3
    have hbf : ∀ W, (Instr.build 85 #[(0, .bool wh)]).run Try.prog W = .ok (.agg #[.bool wh, .slice none 0 0, .slice none 0 0]) W := build_found wh
    go_upto_if 45 with fail
    go_cut [7] from 37 to 122 (fun s7 wx => OpenR w w6 d p gen q c W.heap.size D s7 wx)
    case first =>
      by_cases hbig : A0.length < n0
      · have hb1 : (A0.length : Int) < (n0 : Int) := by omega
        go_wp2_with (first
          | (refine wpList_store1 rfl 33 _ _ rfl c 0 (.slice none 0 0) (by rfl) (by rfl) rfl 33 _ (HHC.out.1.alloc _) (by simp) (by kernel_rfl) rfl ?_; intro w8 B8 F8 S8))
        have e8 : [Value.slice a1 A0.length k1].set 0 (.slice none 0 0) = [.slice none 0 0] := rfl
        rw [e8] at B8
        have G8 : Blk (W.alloc (.cells #[.bool false, .slice none 0 0, .slice none 0 0] 85)) W.heap.size 85 [.bool false, .slice none 0 0, .slice none 0 0] := Blk.new W 85 _
        have HM : OpenR w w6 d p gen q c W.heap.size D (.int .i64 0) w8 := by
          refine ⟨0, [], false, .slice none 0 0, rfl, by rw [HOP.out, if_pos hbig], Nat.le_refl _, by simp, Byt.nil, B8, Own.nil _ _ _ _, G8.fr F8 (by rw [List.mem_singleton]; omega), (HHC.out.2.2.1.alloc _).fr F8 (by rw [List.mem_singleton]; omega), (HHC.out.2.2.2.1.alloc _).fr F8 (by rw [List.mem_singleton]; omega), (HHC.out.2.2.2.2.1.alloc _).trans F8 (fun k hk hlt => by rw [List.mem_singleton.1 hk] at hlt; omega), ?_⟩
          have hDl := (Array.getElem?_eq_some_iff.1 HHC.out.2.2.2.2.2).1
          exact (F8.block D (by rw [World.size_alloc]; omega) (by rw [List.mem_singleton]; omega)).trans ((Below.heap_alloc _ _ _ hDl).trans HHC.out.2.2.2.2.2)
        have HMM := Lib.hid HM
        clear HM B8 F8 S8 G8 e8
        go_meet
        exact HMM.out
      · have hb1 : ¬ (A0.length : Int) < (n0 : Int) := by omega
        have G8 : Blk (W.alloc (.cells #[.bool wh, .slice none 0 0, .slice none 0 0] 85)) W.heap.size 85 [.bool wh, .slice none 0 0, .slice none 0 0] := Blk.new W 85 _
        have HM : OpenR w w6 d p gen q c W.heap.size D (.int .i64 n0) (W.alloc (.cells #[.bool wh, .slice none 0 0, .slice none 0 0] 85)) := by
          have hDl := (Array.getElem?_eq_some_iff.1 HHC.out.2.2.2.2.2).1
          exact ⟨n0, A0, wh, _, rfl, by rw [HOP.out, if_neg hbig], by omega, hal, HYA.out, HHC.out.1.alloc _, HHC.out.2.1.fr0 ((Fr.refl [] W).alloc _), G8, HHC.out.2.2.1.alloc _, HHC.out.2.2.2.1.alloc _, HHC.out.2.2.2.2.1.alloc _, (Below.heap_alloc _ _ _ hDl).trans HHC.out.2.2.2.2.2⟩
        have HMM := Lib.hid HM
        clear HM G8
        go_wp2_with fail
        go_meet
        exact HMM.out
    obtain ⟨n, A, wh', v, rfl, hM⟩ := hcut
    obtain ⟨g, hgg⟩ : ∃ g, W.heap.size = g := ⟨_, rfl⟩
    rw [hgg] at hM hcl ⊢
    clear hgg HHC HYA HOP c0 hbf hfl hal
    obtain ⟨a2, k2, hv2, r1, r2, r3⟩ := hM.ho.form
    subst hv2
    have c1 : wc.cell? ⟨c, 0, none⟩ = some (.slice a2 A.length k2) := hM.hc.cellAt rfl
    have hn := hM.hn
    have ha := hM.ha
    have hk2m : k2 ≤ 9223372036854775807 := by unfold maxLen at r2; exact r2
    have hwg := hM.hg.lt
    have HM := Lib.hid hM
    have HR3 := Lib.hid r3
    clear hM r2 r3
    go_upto_region 15 with (first
      | (refine wpList_appB rfl _ _ 33 33 rfl wc.heap.size 5 5 .u8 1 Try.underlying33 Try.underlying33 info_byte _ 0 [] (by rfl) (Own.nil _ _ _ _) a2 n _ (bv (A.take n)) (by rfl) (by rw [bv_take]; exact HR3.out.takeN n) (by simp; omega) (bv_one _) (by simp only [maxLen]; omega) (by omega) (Nat.le_refl _) ?_; intro v4 w4 O4 F4 K4 _; obtain ⟨av, ks, hvs, t1, t2, t3⟩ := O4.form; subst hvs; rw [Nat.zero_add, List.nil_append] at O4; have HO4 := Lib.hid O4; have HF4 := Lib.hid (show Fr [] wc w4 from F4); clear O4 F4 K4 t1 t2 t3)
      | (refine wpList_store1 rfl 33 _ _ rfl g 1 (.slice av n ks) (by rfl) (by rfl) rfl 85 _ (HM.out.hg.fr HF4.out (by simp)) (by simp) (by kernel_rfl) rfl ?_; intro w5 B5 F5 S5; have HB5 := Lib.hid (show Blk w5 g 85 [.bool wh', .slice av n ks, .slice none 0 0] from B5); have HF5 := Lib.hid F5; clear B5 F5 S5))
    go_wp2_with fail
    go_step3
    go_upto_block 2 with fail
    have hm1 : wc.heap.size ≤ w5.heap.size := by have := HF4.out.size; have := HF5.out.size; omega
    have HL5 : Hid (OpenL w w6 d p gen q c g D n wc.heap.size w5.heap.size A wh' (.slice a2 A.length k2) (.slice av n ks) [] w5) := Lib.hid (by
      have f4 := HF4.out
      have f5 := HF5.out
      have hM := HM.out
      have hav : ∀ k ∈ ob (Value.slice av n ks), k ≠ g := fun k hk => by have := (HO4.out.lt hk).1; omega
      refine ⟨(hM.hc.fr f4 (by simp)).fr f5 (by rw [List.mem_singleton]; omega), (hM.ho.fr0 f4).fr f5 (fun k hk hm => ?_), HO4.out.fr f5 (fun k hk hm => hav k hk (List.mem_singleton.1 hm)), (hM.hq.fr f4 (by simp)).fr f5 (by rw [List.mem_singleton]; omega), (hM.hb.fr f4 (by simp)).fr f5 (by rw [List.mem_singleton]; omega), (hM.hf.trans0 f4).trans f5 (fun k hk hlt => by rw [List.mem_singleton.1 hk] at hlt; omega), ?_, ⟨_, [], HB5.out, Own.nil _ _ _ _, rfl, by simp⟩, Nat.le_refl _⟩
      · obtain ⟨cur, hcur⟩ := hM.ho.blkOf hk
        exact hcur.ne hM.hg (by decide) (List.mem_singleton.1 hm)
      · have hDl := (Array.getElem?_eq_some_iff.1 hM.hk).1
        have h4 := f4.block D hDl (by simp)
        refine (f5.block D (by have := f4.size; omega) ?_).trans (h4.trans hM.hk)
        rw [List.mem_singleton]
        intro e
        have := hM.hg
        unfold Blk at this
        rw [← e, hM.hk] at this
        cases this)
    have hwn : n ≤ 1802240 := by omega
    obtain ⟨m0, hm0⟩ : ∃ m0, wc.heap.size = m0 := ⟨_, rfl⟩
    obtain ⟨m1, hm1'⟩ : ∃ m1, w5.heap.size = m1 := ⟨_, rfl⟩
    rw [hm0] at HL5 hm1 hwg
    rw [hm1'] at HL5 hm1
    have HSL : Hid (∀ k ∈ ob (Value.slice av n ks), m0 ≤ k ∧ k < m1) := Lib.hid (fun k hk => by
      have h1 := HO4.out.lt hk
      have h2 := HF5.out.size
      omega)
    have HOP := Lib.hid HM.out.hop
    have HYA := Lib.hid HM.out.hy
    clear hm0 hm1' HO4 HF4 HB5 HF5 HM HR3 c1
    go_cut [13] from 53 to 122 (fun s13 wx => OpenE w w6 d p gen q c g D n m0 m1 A wh' (.slice a2 A.length k2) (.slice av n ks) s13 wx)
    case first =>
      go_wp2_with fail
      go_loopw [13] (fun s13 wr => OpenK w w6 d p gen q c g D n m0 m1 A wh' (.slice a2 A.length k2) (.slice av n ks) s13 wr) (fun s13 _ => A.length - (intOf s13).toNat)
      case atStart => exact ⟨0, A.length + 1, n, [], rfl, rfl, Nat.zero_le _, hn, rfl, rfl, HL5.out⟩
      case round =>
        obtain ⟨k, f, e, done, rfl, hfk, hke, hea, hdl, hrec, hL⟩ := hrel
        have c1 : wr.cell? ⟨c, 0, none⟩ = some (.slice a2 A.length k2) := hL.hc.cellAt rfl
        obtain ⟨f', rfl⟩ : ∃ f', f = f' + 1 := ⟨f - 1, by omega⟩
        by_cases hlt : e + 4 ≤ A.length
        · have hb1 : (4 : Int) ≤ (A.length : Int) - (e : Int) := by omega
          obtain ⟨ga, cap, cur, hv2, _, hBa, hl1, hl2, hl3, hl4⟩ := hL.ho.blk (by omega)
          simp only [Value.slice.injEq] at hv2
          obtain ⟨rfl, _, rfl⟩ := hv2
          have hrA : Rd wr (some ⟨ga, 0, none⟩) (bv A) := (hL.ho.rdS (X := fun _ => False) (fun _ _ h => h)).1.rd
          have HRA := Lib.hid hrA
          have HL := Lib.hid hL
          have HREC := Lib.hid hrec
          have hke2 : ¬ k2 = e := by omega
          have hcm : k2 ≤ maxLen := hl2
          have HCM := Lib.hid hcm
          have hx := four4_lt HYA.out e
          have hpre : recsP A (f' + 1) e = if 65536 < four4 A e ∨ A.length < e + 4 + four4 A e then ([], e) else ((A.drop (e + 4)).take (four4 A e) :: (recsP A f' (e + 4 + four4 A e)).1, (recsP A f' (e + 4 + four4 A e)).2) := by
            rw [recsP, if_neg (by omega)]
          have HPRE := Lib.hid hpre
          clear hL hrec hBa hl1 hl2 hl3 hl4 hrA hcm hpre HL5
          go_wp2_with fail
          refine (four4_calls (b := A) (i := e) (by rw [bv_drop]; simpa using HRA.out.dropN e) HYA.out (by omega) (by omega) (by omega) (by have := HCM.out; omega)).mono ?_
          rintro e' w9 ⟨rfl, nk, rfl⟩
          dsimp only
          obtain ⟨z, hz⟩ : ∃ z, four4 A e = z := ⟨_, rfl⟩
          rw [hz] at hx HPRE ⊢
          have HZ := Lib.hid hz
          clear hz
          by_cases hstop : 65536 < z ∨ A.length < e + 4 + z
          · have HE9 : Hid (OpenE w w6 d p gen q c g D n m0 m1 A wh' (.slice (some ⟨ga, 0, none⟩) A.length k2) (.slice av n ks) (.int .i64 (e : Nat)) (wr.drewN nk)) := Lib.hid (by
              refine ⟨e, done, rfl, hea, by omega, ?_, HL.out.drewN nk⟩
              rw [HREC.out, HPRE.out, if_pos hstop]
              simp)
            clear HPRE HREC
            go_wp2_with fail
            all_goals (go_meet; exact HE9.out)
          · have hz1 : (z : Int) ≤ 65536 := by omega
            have hz2 : (z : Int) ≤ (A.length : Int) - (e : Int) - 4 := by omega
            have HL9 := Lib.hid (HL.out.drewN nk)
            have c9 : (wr.drewN nk).cell? ⟨c, 0, none⟩ = some (.slice (some ⟨ga, 0, none⟩) A.length k2) := c1
            have HRA9 := Lib.hid (HRA.out.fr0 ((Fr.refl [] wr).drewN nk))
            clear HL HRA c1
            generalize wr.drewN nk = wq at *
            go_wp2_with fail
            obtain ⟨vr, us, hB, hO, hul, hus⟩ := HL9.out.rs
            have d0 : ∀ W', Fr [] wq W' → W'.cell? ⟨g, 2, none⟩ = some vr := fun W' f => (hB.fr f (by simp)).cellAt rfl
            have d1 : ∀ W', Fr [] wq W' → W'.cell? ⟨c, 0, none⟩ = some (.slice (some ⟨ga, 0, none⟩) A.length k2) := fun W' f => (HL9.out.hc.fr f (by simp)).cellAt rfl
            have HRS := Lib.hid (And.intro hB (And.intro hO (And.intro hul hus)))
            clear hB hO hul hus c9
            have i1 : IntKind.i64.wrap ((e : Int) + 4) = (e : Int) + 4 := IntWalk.i64_in _ (by omega)
            have i2 : IntKind.i64.wrap ((e : Int) + 4 + (z : Int)) = (e : Int) + 4 + (z : Int) := IntWalk.i64_in _ (by omega)
            have i3 : (0 : Int) ≤ (e : Int) + 4 := by omega
            obtain ⟨aZ, hRz, hsl⟩ := slice_lh (P := Try.prog) Try.underlying33 (by kernel_rfl : (Try.prog.info? 5).map (·.size) = some 1) (some ⟨ga, 0, none⟩) A.length k2 (e + 4) (e + 4 + z) ((e : Int) + 4) ((e : Int) + 4 + (z : Int)) (by omega) (by omega) (by omega) (by omega)
            rw [show e + 4 + z - (e + 4) = z by omega] at hRz hsl
            have HRz := Lib.hid hRz
            clear hRz
            refine wp_region_ord (Fr [] wq) [0,1,2,3,4,5,6,7,8,9,10,11,12,13,14] [12, 14] [10, 11, 12, 14] [1, 2] mixed (by kernel_rfl) ?_
            have hS : Fr [] wq wq.drew := (Fr.refl _ _).drew
            simp only [pairs, pickN]
            repeat (first | (refine wpO_free ?_ (by rfl) (by rfl) (fun w' => ?_) ?_; rotate_left; (go_simp; rfl); simp only [Act.put, List.setIfInBounds_toArray, List.set_cons_zero, List.set_cons_succ]) | (refine wpO_take ?_ hS (by rfl) (by rfl) (fun w' hw' => ?_) ?_; rotate_left; (go_simp; rfl); simp only [Act.put, List.setIfInBounds_toArray, List.set_cons_zero, List.set_cons_succ]) | (refine wpO_pass (by rfl) ?_; simp only [Act.put, List.setIfInBounds_toArray, List.set_cons_zero, List.set_cons_succ]))
            have hmq : m1 ≤ wq.heap.size := HL9.out.sz
            have hrz : (bv ((A.drop (e + 4)).take z)).length = z := by rw [bv_length, List.length_take, List.length_drop]; omega
            have HRZ := Lib.hid hrz
            clear hrz
            refine wpO_eff (by rfl) ?_
            refine wpList_appB rfl _ _ 33 33 rfl m1 5 5 .u8 1 Try.underlying33 Try.underlying33 info_byte _ 0 [] (by rfl) (Own.nil _ _ _ _) aZ z _ (bv ((A.drop (e + 4)).take z)) (by rfl) (by rw [bv_take, bv_drop]; exact HRz.out _ _ (HRA9.out.fr0 hS)) HRZ.out (bv_one _) (by simp only [maxLen]; omega) (by omega) hmq ?_
            intro vz wz Oz Fz Kz _
            obtain ⟨az, kz, hvz, tz1, tz2, tz3⟩ := Oz.form
            subst hvz
            rw [Nat.zero_add, List.nil_append] at Oz
            have hSz : Fr [] wq wz := hS.trans0 Fz
            refine effQ_keep hSz ?_
            simp only [Act.put, List.setIfInBounds_toArray, List.set_cons_zero, List.set_cons_succ]
            clear Fz Kz tz1 tz2 tz3
            refine wpO_eff (by rfl) ?_
            refine wpList_buildSlice1 rfl 22 33 _ rfl [.slice none 0 0] 1 24 Try.underlying22 (by kernel_rfl) (by simp) (by omega) (by omega) _ [.slice az (0 + z) kz] (by rfl) (by rfl) (by simp) ?_
            intro wy By Fy Sy
            have hSy : Fr [] wq wy := hSz.trans0 Fy
            refine effQ_keep hSy ?_
            simp only [Act.put, List.setIfInBounds_toArray, List.set_cons_zero, List.set_cons_succ]
            refine wpO_eff (by rfl) ?_
            obtain ⟨i0, hi0, hz0, hz1', hz2'⟩ := info_parts info_bytes
            refine wpList_app rfl _ _ 22 22 rfl m1 33 i0 _ 1 24 Try.underlying22 hi0 hz0 hz1' hz2' rfl (by omega) vr done.length us (by rfl) (HRS.out.2.1.fr0 hSy) _ 1 [.slice az (0 + z) kz] (by rfl) ((By.rd0 1).src Try.underlying22 rfl (by simp [Value.oneCell'])) (by simp only [maxLen]; omega) (by omega) (by have := hSy.size; omega) ?_
            intro vq wv Ov Fv Kv _
            refine effQ_skip (by decide) ?_
            simp only [Act.put, List.setIfInBounds_toArray, List.set_cons_zero, List.set_cons_succ]
            repeat (first | (refine wpO_free ?_ (by rfl) (by rfl) (fun w' => ?_) ?_; rotate_left; (go_simp; rfl); simp only [Act.put, List.setIfInBounds_toArray, List.set_cons_zero, List.set_cons_succ]) | (refine wpO_pass (by rfl) ?_; simp only [Act.put, List.setIfInBounds_toArray, List.set_cons_zero, List.set_cons_succ]))
            refine wpO_eff (by rfl) ?_
            obtain ⟨aq, kq, hvq, tq1, tq2, tq3⟩ := Ov.form
            subst hvq
            have hgv : Blk wv g 85 [.bool wh', .slice av n ks, vr] := (HRS.out.1.fr hSy (by simp)).fr Fv (fun hm => by have := (HRS.out.2.1.lt hm).1; omega)
            refine wpList_store1 rfl 22 _ _ rfl g 2 (.slice aq (done.length + 1) kq) (by rfl) (by rfl) rfl 85 _ hgv (by simp) (by kernel_rfl) rfl ?_
            intro wt Bt Ft St
            refine effQ_skip (by decide) (wpO_nil ?_)
            simp only [Act.put, List.setIfInBounds_toArray, List.set_cons_zero, List.set_cons_succ]
            have HLt : Hid (OpenL w w6 d p gen q c g D n m0 m1 A wh' (.slice (some ⟨ga, 0, none⟩) A.length k2) (.slice av n ks) (done ++ [(A.drop (e + 4)).take z]) wt) := Lib.hid (by
              have hL := HL9.out
              have hvr : ∀ k ∈ ob vr, m1 ≤ k := fun k hk => (HRS.out.2.1.lt hk).1
              have hcv : ∀ (k : Nat) t cs, Blk wy k t cs → t ≠ 33 → k ∉ ob vr := fun k t cs hb ht hm => by
                obtain ⟨cur, hcur⟩ := (HRS.out.2.1.fr0 hSy).blkOf hm
                exact hb.ne hcur ht rfl
              have hBy : ∀ (b0 : Nat) (v' : Value) (n' : Nat) (cs' : List Value), Own wy b0 5 1 v' n' cs' → Own wt b0 5 1 v' n' cs' := fun b0 v' n' cs' ho => by
                have h1 := ho.fr Fv (fun k hk => by obtain ⟨cur, hcur⟩ := ho.blkOf hk; exact hcv k _ _ hcur (by decide))
                exact h1.fr Ft (fun k hk hm => by
                  obtain ⟨cur, hcur⟩ := h1.blkOf hk
                  exact hcur.ne hgv (by decide) (List.mem_singleton.1 hm))
              have hlow : ∀ (k : Nat) t cs, Blk wq k t cs → k < m1 → k ≠ g → Blk wt k t cs := fun k t cs hb h1 h2 =>
                ((hb.fr hSy (by simp)).fr Fv (fun hm => by have := hvr k hm; omega)).fr Ft (fun hm => h2 (List.mem_singleton.1 hm))
              have hDl := (Array.getElem?_eq_some_iff.1 hL.hk).1
              have hDn : ∀ k (t : TypeId) cs, Blk wy k t cs → k ≠ D := fun k t cs hb e => by
                have h4 := (hSy.block D hDl (by simp)).trans hL.hk
                unfold Blk at hb
                rw [e, h4] at hb
                cases hb
              refine ⟨hlow c _ _ hL.hc (by omega) (by omega), hBy _ _ _ _ (hL.ho.fr0 hSy), hBy _ _ _ _ (hL.sn.fr0 hSy), hlow q _ _ hL.hq (by omega) (by omega), hlow _ _ _ hL.hb (by omega) (by omega), ((hL.hf.trans0 hSy).trans Fv (fun k hk hlt => by have := hvr k hk; omega)).trans Ft (fun k hk hlt => by rw [List.mem_singleton.1 hk] at hlt; omega), ?_, ⟨.slice aq (done.length + 1) kq, us ++ [.slice az (0 + z) kz], Bt, ?_, by rw [List.length_append, List.length_append, HRS.out.2.2.1]; rfl, fun i v' l' hv' hl' => ?_⟩, ?_⟩
              · have h4 := (hSy.block D hDl (by simp)).trans hL.hk
                have hD2 := (Array.getElem?_eq_some_iff.1 h4).1
                have h5 := (Fv.block D hD2 (fun hm => by
                  obtain ⟨cur, hcur⟩ := (HRS.out.2.1.fr0 hSy).blkOf hm
                  exact hDn _ _ _ hcur rfl)).trans h4
                exact (Ft.block D (Array.getElem?_eq_some_iff.1 h5).1 (fun hm => hDn g _ _ (HRS.out.1.fr hSy (by simp)) (List.mem_singleton.1 hm).symm)).trans h5
              · rw [List.length_append]
                exact Ov.fr Ft (fun k hk hm => by
                  have := (Ov.lt hk).1
                  rw [List.mem_singleton.1 hm] at this
                  omega)
              · rcases Nat.lt_or_ge i us.length with hi | hi
                · rw [List.getElem?_append_left hi] at hv'
                  rw [List.getElem?_append_left (by rw [← HRS.out.2.2.1]; exact hi)] at hl'
                  exact hBy _ _ _ _ ((HRS.out.2.2.2 i v' l' hv' hl').fr0 hSy)
                · rw [List.getElem?_append_right hi] at hv'
                  rw [List.getElem?_append_right (by rw [← HRS.out.2.2.1]; exact hi), ← HRS.out.2.2.1] at hl'
                  rcases hq : i - us.length with _ | j
                  · rw [hq] at hv' hl'
                    simp only [List.getElem?_cons_zero, Option.some.injEq] at hv' hl'
                    subst hv' hl'
                    have hzl : ((A.drop (e + 4)).take z).length = z := by have := HRZ.out; rwa [bv_length] at this
                    rw [hzl, Nat.zero_add]
                    exact hBy _ _ _ _ (Oz.fr0 Fy)
                  · rw [hq] at hv'
                    simp at hv'
              · have := hSy.size
                have := Fv.size
                have := Ft.size
                omega)
            clear HRS Oz Ov Fv Kv Bt Ft hgv By Fy hSy hSz hS
            have hdl2 : (done ++ [(A.drop (e + 4)).take z]).length = k + 1 := by rw [List.length_append, hdl]; rfl
            have HREL : Hid (OpenK w w6 d p gen q c g D n m0 m1 A wh' (.slice (some ⟨ga, 0, none⟩) A.length k2) (.slice av n ks) (.int .i64 ((e + 4 + z : Nat) : Int)) wt) := Lib.hid (by
              refine ⟨k + 1, f', e + 4 + z, _, rfl, by omega, by omega, by omega, hdl2, ?_, HLt.out⟩
              rw [HREC.out, HPRE.out, if_neg hstop]
              simp)
            clear HREC HPRE HLt hdl2
            go_wp2_with fail
            go_roundw
            case rel =>
              have h9 := HREL.out
              rwa [show ((e + 4 + z : Nat) : Int) = (e : Int) + (4 + (z : Int)) by omega] at h9
            case measure => simp [intOf]; omega
        · have hb1 : ¬ (4 : Int) ≤ (A.length : Int) - (e : Int) := by omega
          have HE9 : Hid (OpenE w w6 d p gen q c g D n m0 m1 A wh' (.slice a2 A.length k2) (.slice av n ks) (.int .i64 (e : Nat)) wr) := Lib.hid (by
            refine ⟨e, done, rfl, hea, by omega, ?_, hL⟩
            rw [hrec, recsP, if_pos (by omega)]
            simp)
          clear hL hrec HL5
          go_wp2_with fail
          go_meet
          exact HE9.out
    obtain ⟨e, done, rfl, hea, hdl, hrec, hL⟩ := hcut
    have c1 : wc.cell? ⟨c, 0, none⟩ = some (.slice a2 A.length k2) := hL.hc.cellAt rfl
    have hed : ((e : Int) / 55 * 55) = ((e / 55 * 55 : Nat) : Int) := by omega
    obtain ⟨aT, hRT, hsl⟩ := slice_lh (P := Try.prog) Try.underlying33 (by kernel_rfl : (Try.prog.info? 5).map (·.size) = some 1) a2 A.length k2 (e / 55 * 55) e ((e : Int) / 55 * 55) (e : Int) hed rfl (by omega) (by omega)
    have hrA := (hL.ho.rdS (X := fun _ => False) (fun _ _ h => h)).1.rd
    have hT1 := hRT wc _ hrA
    rw [← bv_drop, ← bv_take] at hT1
    have hTl : ((A.drop (e / 55 * 55)).take (e - e / 55 * 55)).length = e - e / 55 * 55 := by rw [List.length_take, List.length_drop]; omega
    obtain ⟨L, hLe⟩ : ∃ L, (A.drop (e / 55 * 55)).take (e - e / 55 * 55) = L := ⟨_, rfl⟩
    rw [hLe] at hT1 hTl
    rw [← hTl] at hsl
    have hLl : L.length ≤ 55 := by omega
    have hw1 : m1 ≤ wc.heap.size := hL.sz
    have HT1 := Lib.hid hT1
    have HLE := Lib.hid hLe
    have HED := Lib.hid hed
    have HTL := Lib.hid hTl
    have HL := Lib.hid hL
    have HREC := Lib.hid hrec
    clear hT1 hRT hrA hTl hLe hed hL hrec HL5
    clear w4 w5
    have hq2 : ∀ k, k = q → m1 ≤ k → False := by omega
    go_wp2_with (first
      | (refine wpList_appB rfl _ _ 33 33 rfl wc.heap.size 5 5 .u8 1 Try.underlying33 Try.underlying33 info_byte _ 0 [] (by rfl) (Own.nil _ _ _ _) aT L.length _ (bv L) (by rfl) HT1.out (by simp) (bv_one _) (by simp only [maxLen]; omega) (by omega) (Nat.le_refl _) ?_; intro v4 w4 O4 F4 K4 _; obtain ⟨at1, kt, hvt, t1, t2, t3⟩ := O4.form; subst hvt; rw [List.nil_append, Nat.zero_add] at O4; have HO4 := Lib.hid O4; have HF4 := Lib.hid (show Fr [] wc w4 from F4); clear O4 F4 K4 t1 t2 t3)
      | (refine wpList_store1 rfl 33 _ _ rfl q 3 (.slice at1 L.length kt) (by rfl) (by rfl) rfl 103 _ HB5.out (by simp [sto]) (by kernel_rfl) rfl ?_; intro w6' B6 F6 S6; have HB6 := Lib.hid (show Blk w6' q 103 (sto p gen (lifeP d : Nat) (.slice at1 L.length kt) ((e : Int) / 55) 0 0) from B6); have HF6 := Lib.hid F6; clear B6 F6 S6)
      | (refine wpList_store1 rfl _ _ _ rfl q 4 (.int .i64 ((e : Int) / 55)) (by rfl) (by rfl) rfl 103 _ (HL.out.hq.fr HF4.out (by simp)) (by simp [sto]) (by kernel_rfl) rfl ?_; intro w5 B5 F5 S5; have HB5 := Lib.hid (show Blk w5 q 103 (sto p gen (lifeP d : Nat) (.slice none 0 0) ((e : Int) / 55) 0 0) from B5); have HF5 := Lib.hid F5; clear B5 F5 S5))
    obtain ⟨vr, us, hB, hO, hul, hus⟩ := HL.out.rs
    have hqg : q ≠ g := by omega
    have F46 : Fr [q] wc w6' := ((HF4.out.ext (S := [q])).trans1 HF5.out).trans1 HF6.out
    have hB6 : Blk w6' g 85 [.bool wh', .slice av n ks, vr] := hB.fr F46 (by rw [List.mem_singleton]; omega)
    obtain ⟨ar, kr, hvr, tr1, tr2, tr3⟩ := hO.form
    subst hvr
    have d0 : ∀ W', Fr [q] w6' W' → W'.cell? ⟨g, 2, none⟩ = some (.slice ar done.length kr) := fun W' f => (hB6.fr f (by rw [List.mem_singleton]; omega)).cellAt rfl
    have HRS := Lib.hid (And.intro hB (And.intro hO (And.intro hul hus)))
    have HB6g := Lib.hid hB6
    have HF46 := Lib.hid F46
    clear hB hO hul hus hB6 F46 tr1 tr2 tr3 c1 hsl
    refine wp_region_ord (Fr [q] w6') [0,1,2,3,4,5,6,7,8,9,10,11,12,13] [] [10, 13] [3, 6] mixed (by kernel_rfl) ?_
    have hS : Fr [q] w6' w6'.drew := (Fr.refl _ _).drew
    simp only [pairs, pickN]
    repeat (first | (refine wpO_free ?_ (by rfl) (by rfl) (fun w' => ?_) ?_; rotate_left; (go_simp; rfl); simp only [Act.put, List.setIfInBounds_toArray, List.set_cons_zero, List.set_cons_succ]) | (refine wpO_take ?_ hS (by rfl) (by rfl) (fun w' hw' => ?_) ?_; rotate_left; (go_simp; rfl); simp only [Act.put, List.setIfInBounds_toArray, List.set_cons_zero, List.set_cons_succ]) | (refine wpO_pass (by rfl) ?_; simp only [Act.put, List.setIfInBounds_toArray, List.set_cons_zero, List.set_cons_succ]))
    refine wpO_eff (by rfl) ?_
    refine wpList_store1 rfl _ _ _ rfl q 5 (.int .i64 done.length) (by rfl) (by rfl) rfl 103 _ HB6.out.drew (by simp [sto]) (by kernel_rfl) rfl ?_
    intro w7 B7 F7 S7
    refine effQ_keep (hS.trans1 F7) ?_
    simp only [Act.put, List.setIfInBounds_toArray, List.set_cons_zero, List.set_cons_succ]
    repeat (first | (refine wpO_free ?_ (by rfl) (by rfl) (fun w' => ?_) ?_; rotate_left; (go_simp; rfl); simp only [Act.put, List.setIfInBounds_toArray, List.set_cons_zero, List.set_cons_succ]) | (refine wpO_pass (by rfl) ?_; simp only [Act.put, List.setIfInBounds_toArray, List.set_cons_zero, List.set_cons_succ]))
    refine wpO_eff (by rfl) ?_
    refine wpList_store1 rfl _ _ _ rfl q 6 (.int .i64 done.length) (by rfl) (by rfl) rfl 103 _ B7 (by simp [sto]) (by kernel_rfl) rfl ?_
    intro w8 B8 F8 S8
    refine effQ_keep ((hS.trans1 F7).trans1 F8) (wpO_nil ?_)
    simp only [Act.put, List.setIfInBounds_toArray, List.set_cons_zero, List.set_cons_succ]
    have B8' : Blk w8 q 103 (sto p gen (lifeP d : Nat) (.slice at1 L.length kt) ((e : Int) / 55) done.length done.length) := B8
    have HB8 := Lib.hid B8'
    have HF68 := Lib.hid ((hS.trans1 F7).trans1 F8)
    have HF8 := Lib.hid (((HF46.out.trans1 hS).trans1 F7).trans1 F8)
    clear B7 F7 B8 F8 B8' d0 hS HB6 S7 S8
    go_wp2_with fail
    have hfw8 : Fr [q] w w8 := (HL.out.hf.ext (S := [q])).trans1 HF8.out
    have hD8 := (HH.out.fr hfw8 (by rw [List.mem_singleton]; omega) (by rw [List.mem_singleton]; omega) (fun k hk hm => by have := hllt k hk; rw [List.mem_singleton.1 hm] at this; omega))
    refine (sync_calls hD8).mono ?_
    rintro e' w9 ⟨rfl, D9, F9⟩
    have HD9 := Lib.hid D9
    have HF9 := Lib.hid F9
    have hB9 : Blk w9 q 103 (sto p gen (lifeP d : Nat) (.slice at1 L.length kt) ((e : Int) / 55) done.length done.length) := HB8.out.fr F9 (by rw [List.mem_singleton]; omega)
    have hg9 : Blk w9 g 85 [.bool wh', .slice av n ks, .slice ar done.length kr] := (HRS.out.1.fr HF8.out (by rw [List.mem_singleton]; omega)).fr F9 (by rw [List.mem_singleton]; omega)
    have h09 : Blk w9 w.heap.size 85 [.bool false, .slice none 0 0, .slice none 0 0] := (HL.out.hb.fr HF8.out (by rw [List.mem_singleton]; omega)).fr F9 (by rw [List.mem_singleton]; omega)
    have d3 : ∀ W', Fr [] w9 W' → W'.rangeAt g 0 [.bool wh', .slice av n ks, .slice ar done.length kr] := fun W' f => (hg9.fr f (by simp)).range 0 3
    have HB9 := Lib.hid (And.intro hB9 (And.intro hg9 h09))
    have HB8b := HB8
    clear D9 F9 hD8 hB9 hg9 h09 HB8
    dsimp only
    go_wp2_with fail
    refine wp_region_ord (Fr [] w9) [0,1,2,3,4] [3] [3] [1] mixed (by kernel_rfl) ?_
    have hS : Fr [] w9 w9.drew := (Fr.refl _ _).drew
    simp only [pairs, pickN]
    repeat (first | (refine wpO_free ?_ (by rfl) (by rfl) (fun w' => ?_) ?_; rotate_left; (go_simp; rfl); simp only [Act.put, List.setIfInBounds_toArray, List.set_cons_zero, List.set_cons_succ]) | (refine wpO_take ?_ hS (by rfl) (by rfl) (fun w' hw' => ?_) ?_; rotate_left; (go_simp; rfl); simp only [Act.put, List.setIfInBounds_toArray, List.set_cons_zero, List.set_cons_succ]) | (refine wpO_pass (by rfl) ?_; simp only [Act.put, List.setIfInBounds_toArray, List.set_cons_zero, List.set_cons_succ]))
    refine wpO_takeY _ hS (by rfl) (yieldsIf_load_mid (by rfl) 85 _ rfl g 0 rfl [.bool wh', .slice av n ks, .slice ar done.length kr] _ d3 Try.underlying85 rfl (by exact found_size)) ?_
    simp only [Act.put, List.setIfInBounds_toArray, List.set_cons_zero, List.set_cons_succ]
    repeat (first | (refine wpO_free ?_ (by rfl) (by rfl) (fun w' => ?_) ?_; rotate_left; (go_simp; rfl); simp only [Act.put, List.setIfInBounds_toArray, List.set_cons_zero, List.set_cons_succ]) | (refine wpO_take ?_ hS (by rfl) (by rfl) (fun w' hw' => ?_) ?_; rotate_left; (go_simp; rfl); simp only [Act.put, List.setIfInBounds_toArray, List.set_cons_zero, List.set_cons_succ]) | (refine wpO_pass (by rfl) ?_; simp only [Act.put, List.setIfInBounds_toArray, List.set_cons_zero, List.set_cons_succ]))
    refine wpO_eff (by rfl) ?_
    refine wpList_storeB rfl 85 _ _ rfl w.heap.size 0 [.bool wh', .slice av n ks, .slice ar done.length kr] (by rfl) (by rfl) 85 _ (HB9.out.2.2.fr hS (by simp)) (by simp) found_size (by simp [Value.oneCell']) ?_
    intro w10 B10 F10 S10
    rw [splice_all _ _ (by rfl)] at B10
    refine effQ_skip (by decide) ?_
    simp only [Act.put, List.setIfInBounds_toArray, List.set_cons_zero, List.set_cons_succ]
    repeat (first | (refine wpO_free ?_ (by rfl) (by rfl) (fun w' => ?_) ?_; rotate_left; (go_simp; rfl); simp only [Act.put, List.setIfInBounds_toArray, List.set_cons_zero, List.set_cons_succ]) | (refine wpO_pass (by rfl) ?_; simp only [Act.put, List.setIfInBounds_toArray, List.set_cons_zero, List.set_cons_succ]))
    refine wpO_nil ?_
    have HB10 := Lib.hid B10
    have HF10 := Lib.hid ((hS.ext (S := [w.heap.size])).trans1 F10)
    clear B10 F10 hS d3 S10
    go_wp2_with fail
    rw [Exit.noGoto_ret]
    have hDl := (Array.getElem?_eq_some_iff.1 HL.out.hk).1
    have hDq : ∀ (k : Nat) (W : World) (t : TypeId) cs, Blk W k t cs → W.heap[D]? = some (.deferred (some [])) → D ∉ [k] := fun k W t cs hb hk hm => by
      unfold Blk at hb
      rw [← List.mem_singleton.1 hm, hk] at hb
      cases hb
    have hK8 : w8.heap[D]? = some (.deferred (some [])) := (HF8.out.block D hDl (hDq _ _ _ _ HL.out.hq HL.out.hk)).trans HL.out.hk
    have hK9 : w9.heap[D]? = some (.deferred (some [])) := (HF9.out.block D (Array.getElem?_eq_some_iff.1 hK8).1 (by rw [List.mem_singleton]; omega)).trans hK8
    have hK10 : w10.heap[D]? = some (.deferred (some [])) := (HF10.out.block D (Array.getElem?_eq_some_iff.1 hK9).1 (hDq _ _ _ _ HB9.out.2.2 hK9)).trans hK9
    have FD : Fr [D] w10 (w10.putObj D (.deferred none)) := (Fr.refl _ w10).putObj D _ (.inl (by simp))
    have BF := HB10.out.fr FD (fun hm => by
      have := HB10.out
      unfold Blk at this
      rw [List.mem_singleton.1 hm, hK10] at this
      cases this)
    refine ⟨by simp, .inl ⟨D, _, rfl, run_takeDeferred hK10, ?_⟩⟩
    have hFE : Fr [p] w (w10.putObj D (.deferred none)) := by
      have g1 : Fr [p, q] w w9 := (hfw8.mono (fun k hk _ => by rw [List.mem_singleton.1 hk]; simp)).trans HF9.out (fun k hk _ => by rw [List.mem_singleton.1 hk]; simp)
      refine (g1.mono (S' := [p]) (fun k hk hlt => ?_)).trans (((HF10.out.mono (S' := [w.heap.size, D]) (fun k hk _ => by rw [List.mem_singleton.1 hk]; simp)).trans FD (fun k hk _ => by rw [List.mem_singleton.1 hk]; simp))) (fun k hk hlt => ?_)
      · simp only [List.mem_cons, List.not_mem_nil, or_false] at hk
        rcases hk with rfl | rfl
        · simp
        · omega
      · simp only [List.mem_cons, List.not_mem_nil, or_false] at hk
        omega
    have hcarry : ∀ (k : Nat) t cs, Blk w8 k t cs → k ≠ p → k ≠ w.heap.size → Blk (w10.putObj D (.deferred none)) k t cs := fun k t cs hb h1 h2 => by
      have g1 := (hb.fr HF9.out (by rw [List.mem_singleton]; exact h1)).fr HF10.out (by rw [List.mem_singleton]; exact h2)
      exact g1.fr FD (fun hm => hDq _ _ _ _ g1 hK10 (by rw [List.mem_singleton.1 hm]; simp))
    have hown : ∀ (b0 s0 : Nat) (t : TypeId) (v' : Value) (n' : Nat) (cs' : List Value), Own wc b0 t s0 v' n' cs' → w.heap.size < b0 → q < b0 → Own (w10.putObj D (.deferred none)) b0 t s0 v' n' cs' := fun b0 s0 t v' n' cs' ho h1 h2 => by
      have hb := fun k hk => (ho.lt (k := k) hk).1
      have g1 := ho.fr HF8.out (fun k hk hm => by have := hb k hk; rw [List.mem_singleton.1 hm] at this; omega)
      have g2 := g1.fr HF9.out (fun k hk hm => by have := hb k hk; rw [List.mem_singleton.1 hm] at this; omega)
      have g3 := g2.fr HF10.out (fun k hk hm => by have := hb k hk; rw [List.mem_singleton.1 hm] at this; omega)
      exact g3.fr FD (fun k hk hm => by
        obtain ⟨cur, hcur⟩ := g3.blkOf hk
        exact hDq _ _ _ _ hcur hK10 (by rw [List.mem_singleton.1 hm]; simp))
    refine ⟨_, results_cellMid rfl _ _ w.heap.size 85 [.bool wh', .slice av n ks, .slice ar done.length kr] _ (by rfl) BF Try.underlying85 (by rfl) found_size, q, .slice av n ks, .slice ar done.length kr, .slice at1 L.length kt, m1, wc.heap.size, ?_, ?_, hFE⟩
    · rw [HOP.out]
      rfl
    · have hm1w : w.heap.size < m1 := by omega
      have hmw2 : w.heap.size < wc.heap.size := by omega
      have ho : openP d = ⟨gen, lifeP d, wh', A.take n, done, e / 55, L⟩ := by
        rw [HOP.out]
        unfold openA
        rw [HREC.out]
        dsimp only
        rw [← HLE.out, List.drop_take]
      rw [ho]
      refine ⟨?_, ?_, ?_, ?_, ⟨us, hown _ _ _ _ _ _ HRS.out.2.1 hm1w (by omega), HRS.out.2.2.1, fun i v' l' hv' hl' => ⟨hown _ _ _ _ _ _ (HRS.out.2.2.2 i v' l' hv' hl') hm1w (by omega), fun k hk => ((HRS.out.2.2.2 i v' l' hv' hl').lt hk).2⟩⟩, ⟨by omega, by omega⟩, fun k hk => (HSL.out k hk).2, fun k hk => (HRS.out.2.1.lt hk).2, by omega, hw1⟩
      · have g1 := HD9.out.fr HF10.out (by rw [List.mem_singleton]; omega) (by rw [List.mem_singleton]; omega) (by simp)
        exact g1.fr FD (fun hm => hDq _ _ _ _ g1.hp hK10 (by rw [List.mem_singleton.1 hm]; simp)) (fun hm => hDq _ _ _ _ g1.hb hK10 (by rw [List.mem_singleton.1 hm]; simp)) (by simp)
      · have := hcarry q _ _ HB8b.out (by omega) (by omega)
        simpa [sto] using this
      · have hb := fun k hk => (HO4.out.lt (k := k) hk).1
        have g1 := ((HO4.out.fr HF5.out (fun k hk hm => by have := hb k hk; rw [List.mem_singleton.1 hm] at this; omega)).fr HF6.out (fun k hk hm => by have := hb k hk; rw [List.mem_singleton.1 hm] at this; omega)).fr HF68.out (fun k hk hm => by have := hb k hk; rw [List.mem_singleton.1 hm] at this; omega)
        have g2 := g1.fr HF9.out (fun k hk hm => by have := hb k hk; rw [List.mem_singleton.1 hm] at this; omega)
        have g3 := g2.fr HF10.out (fun k hk hm => by have := hb k hk; rw [List.mem_singleton.1 hm] at this; omega)
        exact g3.fr FD (fun k hk hm => by
          obtain ⟨cur, hcur⟩ := g3.blkOf hk
          exact hDq _ _ _ _ hcur hK10 (by rw [List.mem_singleton.1 hm]; simp))
      · have := hown _ _ _ _ _ _ HL.out.sn (by omega) (by omega)
        have h2 : (A.take n).length = n := by rw [List.length_take]; omega
        dsimp only
        rw [h2]
        exact this.base (by omega)
end Go.Fur
