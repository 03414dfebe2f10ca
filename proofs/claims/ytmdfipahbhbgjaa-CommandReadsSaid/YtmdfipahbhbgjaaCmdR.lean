/- The reader of command: what it holds; int64, int, upto: contracts. -/
import Derived.Test.YtmdfipahbhbgjaaStripRead
import Derived.Test.YtmdfipahbhbgjaaArr2
import Derived.Test.YtmdfipahbhbgjaaCmdW
import Derived.Deep.QuietTactic
import Derived.BigQuiet
namespace Go.Fur
open Go Go.RowKit Go.Proofs
set_option linter.unusedVariables false
set_option linter.unusedSimpArgs false
theorem n256_nn (l : List Int) (h : Byt l) : n256 l < 256 ^ l.length := n256_lt l h
theorem readN_bnd (l : List Int) (hb : Byt l) (at_ : Int) : 0 ≤ (readN l at_).1 ∧ (readN l at_).1 < 18446744073709551616 := by
  unfold readN
  split
  · exact ⟨by dsimp only; omega, by dsimp only; omega⟩
  · split
    · exact ⟨by dsimp only; omega, by dsimp only; omega⟩
    · rename_i h t hd
      have hm : h ∈ l := List.mem_of_mem_drop (by rw [hd]; exact List.mem_cons_self)
      have h1 := hb h hm
      split
      · exact ⟨h1.1, by omega⟩
      · split
        · exact ⟨by dsimp only; omega, by dsimp only; omega⟩
        · split
          · exact ⟨by dsimp only; omega, by dsimp only; omega⟩
          · split
            · exact ⟨by dsimp only; omega, by dsimp only; omega⟩
            · exact ⟨by dsimp only; omega, by dsimp only; omega⟩
/-- A whole number that is read. -/
def unz (x : Int) : Int := if x % 2 = 1 then -1 - x / 2 else x / 2
def readI (l : List Int) (at_ : Int) : Int × Int × Int := (unz (readN l at_).1, (readN l at_).2.1, (readN l at_).2.2)
theorem unz_I64 (x : Int) (h0 : 0 ≤ x) (h1 : x < 18446744073709551616) : I64 (unz x) := by
  unfold unz I64
  split <;> omega
theorem readI_I64 (l : List Int) (hb : Byt l) (at_ : Int) : I64 (readI l at_).1 := unz_I64 _ (readN_bnd l hb at_).1 (readN_bnd l hb at_).2
def ReadIE (r : Int × Int × Int) (w : World) (e : Ending) (w' : World) : Prop := e = .returned (.tuple #[.int .i64 r.1, .int .i64 r.2.1, .int .i64 r.2.2]) ∧ w = w'
set_option maxRecDepth 100000 in
set_option maxHeartbeats 1000000 in
theorem readInt_calls (w : World) (a : Option Addr) (n c : Nat) (l : List Int) (hl : l.length = n) (hc : n ≤ c) (hn : n ≤ 140737488355328) (hb : Byt l) (ra : Rd w a (bv l)) (at_ : Int) :
    Calls Try.prog 99 #[.slice a n c, .int .i64 at_] w (ReadIE (readI l at_) w) := by
  have hR := read_calls w a n c l hl hc hn hb ra at_
  have hB := readN_bnd l hb at_
  unfold readI
  generalize readN l at_ = r at *
  obtain ⟨x, nx, er⟩ := r
  have HR := Lib.hid hR
  obtain ⟨h0, h1⟩ := hB
  dsimp only at h0 h1 ⊢
  clear hR
  by_cases hx : x % 2 = 1
  · have e1 : unz x = -1 - x / 2 := by unfold unz; rw [if_pos hx]
    have e2 : bits .xor .i64 (-1) (x / 2) = -1 - x / 2 := i64_compl _ (by omega) (by omega)
    have e3 : wrap64 (IntKind.u64.wrap (x / 2)) = x / 2 := by rw [IntKind.wrap_u64]; unfold wrap64; omega
    have H3 := Lib.hid e3
    clear e3
    have e4 : (x % 2 == 1) = true := by simpa using hx
    have e5 : x.tmod 2 = x % 2 := Int.tmod_eq_emod_of_nonneg h0
    have e6 : x.tdiv 2 = x / 2 := Int.tdiv_eq_ediv_of_nonneg h0
    have HE := Lib.hid e2
    have H1 := Lib.hid e1
    clear e2 e1 h0 h1
    go_enter Try.func99, Try.ntmps99
    go_wp2_with fail
    refine HR.out.mono ?_
    rintro e w' ⟨rfl, rfl⟩
    go_wp2_with fail
    go_ret3
    rw [H1.out, ← HE.out]
    refine ⟨?_, rfl⟩
    rw [H3.out]
    rfl
  · have e1 : unz x = x / 2 := by unfold unz; rw [if_neg hx]
    have e3 : wrap64 (IntKind.u64.wrap (x / 2)) = x / 2 := by rw [IntKind.wrap_u64]; unfold wrap64; omega
    have H3 := Lib.hid e3
    clear e3
    have e4 : (x % 2 == 1) = false := by simpa using hx
    have e5 : x.tmod 2 = x % 2 := Int.tmod_eq_emod_of_nonneg h0
    have e6 : x.tdiv 2 = x / 2 := Int.tdiv_eq_ediv_of_nonneg h0
    have H1 := Lib.hid e1
    clear e1 h0 h1
    go_enter Try.func99, Try.ntmps99
    go_wp2_with fail
    refine HR.out.mono ?_
    rintro e w' ⟨rfl, rfl⟩
    go_wp2_with fail
    go_ret3
    rw [H1.out]
    refine ⟨?_, rfl⟩
    rw [H3.out]
    rfl
/-! ### The reader -/
/-- The bytes that are read. -/
structure Src (l : List Int) (a : Option Addr) (n c : Nat) : Prop where
  len : l.length = n
  cap : n ≤ c
  small : n ≤ 140737488355328
  byt : Byt l
/-- The reader at the block p: bytes l, place and error s. -/
structure Rr (w : World) (p : Nat) (a : Option Addr) (n c : Nat) (l : List Int) (s : Int × Int) : Prop where
  hp : Blk w p 140 [.slice a n c, .int .i64 s.1, .int .i64 s.2]
  rd : RdA w (fun k => k = p) a (bv l)
  src : Src l a n c
theorem Rr.fr0 {w w' : World} {p : Nat} {a : Option Addr} {n c : Nat} {l : List Int} {s : Int × Int} (h : Rr w p a n c l s) (f : Fr [] w w') : Rr w' p a n c l s := ⟨h.hp.fr f (by simp), h.rd.fr0 f, h.src⟩
/-- A block that is stored into: the reader's. -/
theorem Rr.put {w w' : World} {p : Nat} {a : Option Addr} {n c : Nat} {l : List Int} {s s' : Int × Int} (h : Rr w p a n c l s) (f : Fr [p] w w') (hb : Blk w' p 140 [.slice a n c, .int .i64 s'.1, .int .i64 s'.2]) : Rr w' p a n c l s' :=
  ⟨hb, h.rd.step f (fun k hk => .inl (List.mem_singleton.1 hk)) (fun k hk => .inl hk), h.src⟩
/-- A whole number, if there was no error. -/
def rI (l : List Int) (s : Int × Int) : Int × Int × Int := if s.2 = 0 then readI l s.1 else (0, s)
/-- A number that is at most another one. -/
def rU (l : List Int) (most bad : Int) (s : Int × Int) : Int × Int × Int :=
  if s.2 = 0 then (if (readN l s.1).2.2 = 0 ∧ most < (readN l s.1).1 then (0, s.1, bad) else readN l s.1) else (0, s)
/-- What a reader's step answers. -/
def RrE (p : Nat) (a : Option Addr) (n c : Nat) (l : List Int) (x : Value) (s' : Int × Int) (w : World) (e : Ending) (w' : World) : Prop := e = .returned x ∧ Rr w' p a n c l s' ∧ Fr [p] w w'
theorem info_r : (Try.prog.info? 140).map (·.size) = some 3 := by kernel_rfl
set_option maxRecDepth 100000 in
set_option maxHeartbeats 1000000 in
theorem int64_calls {w : World} {p : Nat} {a : Option Addr} {n c : Nat} {l : List Int} {s : Int × Int} (h : Rr w p a n c l s) :
    Calls Try.prog 77 #[.pointer (some ⟨p, 0, none⟩)] w (RrE p a n c l (.int .i64 (rI l s).1) (rI l s).2 w) := by
  obtain ⟨at_, er⟩ := s
  have c0 : w.cell? ⟨p, 0, none⟩ = some (.slice a n c) := h.hp.cellAt rfl
  have c1 : w.cell? ⟨p, 1, none⟩ = some (.int .i64 at_) := h.hp.cellAt rfl
  have c2 : w.cell? ⟨p, 2, none⟩ = some (.int .i64 er) := h.hp.cellAt rfl
  have hpl := h.hp.lt
  by_cases he : er = 0
  · subst he
    have hR : ∀ m, Calls Try.prog 99 #[.slice a n c, .int .i64 at_] (w.drewN m) fun e w' => e = .returned (.tuple #[.int .i64 (readI l at_).1, .int .i64 (readI l at_).2.1, .int .i64 (readI l at_).2.2]) ∧ w' = w.drewN m := fun m =>
      (readInt_calls (w.drewN m) a n c l h.src.len h.src.cap h.src.small h.src.byt ((h.rd.fr0 ((Fr.refl [] w).drewN m)).rd) at_).mono (fun e w' hh => ⟨hh.1, hh.2.symm⟩)
    have e1 : rI l (at_, 0) = readI l at_ := by unfold rI; rw [if_pos rfl]
    rw [e1]
    clear e1
    generalize readI l at_ = r at *
    obtain ⟨x, nx, er2⟩ := r
    have HR := Lib.hid hR
    have HH := Lib.hid h
    clear hR h
    go_enter Try.func77, Try.ntmps77
    go_wp2_with fail
    go_quiet (exact Calls.quiet_of_same (HR.out _))
    have HQ := Lib.hid (HH.out.hp.fr ((Fr.refl [] w).drewN nq) (by simp))
    have HG := Lib.hid ((Fr.refl [] w).drewN nq)
    generalize w.drewN nq = wq at *
    go_wp2_with (first
      | (refine wpList_store1 rfl 38 _ _ rfl p 2 (.int .i64 er2) (by rfl) (by rfl) rfl 140 _ HB1.out (by simp) (by kernel_rfl) rfl ?_; intro w2 B2 F2 S2; have HB2 := Lib.hid B2; have HF2 := Lib.hid F2; clear B2 F2 S2)
      | (refine wpList_store1 rfl 3 _ _ rfl p 1 (.int .i64 nx) (by rfl) (by rfl) rfl 140 _ HQ.out (by simp) (by kernel_rfl) rfl ?_; intro w1 B1 F1 S1; have HB1 := Lib.hid B1; have HF1 := Lib.hid F1; clear B1 F1 S1))
    go_ret
    exact ⟨rfl, HH.out.put (((Fr.ext HG.out).trans1 HF1.out).trans1 HF2.out) HB2.out, ((Fr.ext HG.out).trans1 HF1.out).trans1 HF2.out⟩
  · have hb : (er != 0) = true := by simpa using he
    have e1 : rI l (at_, er) = (0, at_, er) := by unfold rI; rw [if_neg he]
    rw [e1]
    have HH := Lib.hid h
    clear e1 h he
    go_enter Try.func77, Try.ntmps77
    go_wp2_with fail
    go_ret
    exact ⟨rfl, HH.out, Fr.refl _ _⟩
theorem int_rcalls {w : World} {p : Nat} {a : Option Addr} {n c : Nat} {l : List Int} {s : Int × Int} (h : Rr w p a n c l s) :
    Calls Try.prog 78 #[.pointer (some ⟨p, 0, none⟩)] w (RrE p a n c l (.int .i64 (rI l s).1) (rI l s).2 w) := by
  have HC := Lib.hid (int64_calls h)
  clear h
  generalize rI l s = r at *
  obtain ⟨x, s2⟩ := r
  go_enter Try.func78, Try.ntmps78
  go_wp2_with fail
  refine HC.out.mono ?_
  rintro e w' ⟨rfl, h1, h2⟩
  have H1 := Lib.hid h1
  have H2 := Lib.hid h2
  clear h1 h2
  go_wp2_with fail
  go_ret
  exact ⟨rfl, H1.out, H2.out⟩
set_option maxRecDepth 100000 in
set_option maxHeartbeats 1000000 in
theorem upto_calls {w : World} {p : Nat} {a : Option Addr} {n c : Nat} {l : List Int} {s : Int × Int} (h : Rr w p a n c l s) (most bad : Int) :
    Calls Try.prog 100 #[.pointer (some ⟨p, 0, none⟩), .int .u64 most, .int .i64 bad] w (RrE p a n c l (.int .u64 (rU l most bad s).1) (rU l most bad s).2 w) := by
  obtain ⟨at_, er⟩ := s
  have c0 : w.cell? ⟨p, 0, none⟩ = some (.slice a n c) := h.hp.cellAt rfl
  have c1 : w.cell? ⟨p, 1, none⟩ = some (.int .i64 at_) := h.hp.cellAt rfl
  have c2 : w.cell? ⟨p, 2, none⟩ = some (.int .i64 er) := h.hp.cellAt rfl
  have hpl := h.hp.lt
  by_cases he : er = 0
  · subst he
    have hR : ∀ m, Calls Try.prog 110 #[.slice a n c, .int .i64 at_] (w.drewN m) fun e w' => e = .returned (.tuple #[.int .u64 (readN l at_).1, .int .i64 (readN l at_).2.1, .int .i64 (readN l at_).2.2]) ∧ w' = w.drewN m := fun m =>
      (read_calls (w.drewN m) a n c l h.src.len h.src.cap h.src.small h.src.byt ((h.rd.fr0 ((Fr.refl [] w).drewN m)).rd) at_).mono (fun e w' hh => ⟨hh.1, hh.2.symm⟩)
    have e1 : rU l most bad (at_, 0) = if (readN l at_).2.2 = 0 ∧ most < (readN l at_).1 then (0, at_, bad) else readN l at_ := by unfold rU; rw [if_pos rfl]
    rw [e1]
    clear e1
    generalize readN l at_ = r at *
    obtain ⟨x, nx, er2⟩ := r
    dsimp only at hR ⊢
    have HR := Lib.hid hR
    have HH := Lib.hid h
    clear hR h
    by_cases h1 : er2 = 0
    · subst h1
      by_cases h2 : most < x
      · rw [if_pos ⟨rfl, h2⟩]
        go_enter Try.func100, Try.ntmps100
        go_wp2_with fail
        go_quiet (exact Calls.quiet_of_same (HR.out _))
        have HQ := Lib.hid (HH.out.hp.fr ((Fr.refl [] w).drewN nq) (by simp))
        have HG := Lib.hid ((Fr.refl [] w).drewN nq)
        generalize w.drewN nq = wq at *
        go_wp2_with (first
          | (refine wpList_store1 rfl 38 _ _ rfl p 2 (.int .i64 bad) (by rfl) (by rfl) rfl 140 _ HB3.out (by simp) (by kernel_rfl) rfl ?_; intro w4 B4 F4 S4; have HB4 := Lib.hid B4; have HF4 := Lib.hid F4; clear B4 F4 S4)
          | (refine wpList_store1 rfl 3 _ _ rfl p 1 (.int .i64 at_) (by rfl) (by rfl) rfl 140 _ HB2.out (by simp) (by kernel_rfl) rfl ?_; intro w3 B3 F3 S3; have HB3 := Lib.hid B3; have HF3 := Lib.hid F3; clear B3 F3 S3)
          | (refine wpList_store1 rfl 38 _ _ rfl p 2 (.int .i64 0) (by rfl) (by rfl) rfl 140 _ HB1.out (by simp) (by kernel_rfl) rfl ?_; intro w2 B2 F2 S2; have HB2 := Lib.hid B2; have HF2 := Lib.hid F2; clear B2 F2 S2)
          | (refine wpList_store1 rfl 3 _ _ rfl p 1 (.int .i64 nx) (by rfl) (by rfl) rfl 140 _ HQ.out (by simp) (by kernel_rfl) rfl ?_; intro w1 B1 F1 S1; have HB1 := Lib.hid B1; have HF1 := Lib.hid F1; clear B1 F1 S1))
        go_ret
        have FF := ((((Fr.ext HG.out).trans1 HF1.out).trans1 HF2.out).trans1 HF3.out).trans1 HF4.out
        exact ⟨rfl, HH.out.put FF HB4.out, FF⟩
      · rw [if_neg (fun hh => h2 hh.2)]
        go_enter Try.func100, Try.ntmps100
        go_wp2_with fail
        go_quiet (exact Calls.quiet_of_same (HR.out _))
        have HQ := Lib.hid (HH.out.hp.fr ((Fr.refl [] w).drewN nq) (by simp))
        have HG := Lib.hid ((Fr.refl [] w).drewN nq)
        generalize w.drewN nq = wq at *
        go_wp2_with (first
          | (refine wpList_store1 rfl 38 _ _ rfl p 2 (.int .i64 0) (by rfl) (by rfl) rfl 140 _ HB1.out (by simp) (by kernel_rfl) rfl ?_; intro w2 B2 F2 S2; have HB2 := Lib.hid B2; have HF2 := Lib.hid F2; clear B2 F2 S2)
          | (refine wpList_store1 rfl 3 _ _ rfl p 1 (.int .i64 nx) (by rfl) (by rfl) rfl 140 _ HQ.out (by simp) (by kernel_rfl) rfl ?_; intro w1 B1 F1 S1; have HB1 := Lib.hid B1; have HF1 := Lib.hid F1; clear B1 F1 S1))
        go_ret
        have FF := ((Fr.ext HG.out).trans1 HF1.out).trans1 HF2.out
        exact ⟨rfl, HH.out.put FF HB2.out, FF⟩
    · rw [if_neg (fun hh => h1 hh.1)]
      have hb : (er2 == 0) = false := by simpa using h1
      clear h1
      go_enter Try.func100, Try.ntmps100
      go_wp2_with fail
      go_quiet (exact Calls.quiet_of_same (HR.out _))
      have HQ := Lib.hid (HH.out.hp.fr ((Fr.refl [] w).drewN nq) (by simp))
      have HG := Lib.hid ((Fr.refl [] w).drewN nq)
      generalize w.drewN nq = wq at *
      go_wp2_with (first
        | (refine wpList_store1 rfl 38 _ _ rfl p 2 (.int .i64 er2) (by rfl) (by rfl) rfl 140 _ HB1.out (by simp) (by kernel_rfl) rfl ?_; intro w2 B2 F2 S2; have HB2 := Lib.hid B2; have HF2 := Lib.hid F2; clear B2 F2 S2)
        | (refine wpList_store1 rfl 3 _ _ rfl p 1 (.int .i64 nx) (by rfl) (by rfl) rfl 140 _ HQ.out (by simp) (by kernel_rfl) rfl ?_; intro w1 B1 F1 S1; have HB1 := Lib.hid B1; have HF1 := Lib.hid F1; clear B1 F1 S1))
      go_ret
      have FF := ((Fr.ext HG.out).trans1 HF1.out).trans1 HF2.out
      exact ⟨rfl, HH.out.put FF HB2.out, FF⟩
  · have hb : (er != 0) = true := by simpa using he
    have e1 : rU l most bad (at_, er) = (0, at_, er) := by unfold rU; rw [if_neg he]
    rw [e1]
    have HH := Lib.hid h
    clear e1 h he
    go_enter Try.func100, Try.ntmps100
    go_wp2_with fail
    go_ret
    exact ⟨rfl, HH.out, Fr.refl _ _⟩
end Go.Fur
