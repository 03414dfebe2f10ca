/- Numbers in four bytes, halves and places of a store: contracts. -/
import Derived.Test.YtmhejgelmmjihaaDiskC
import Derived.BigQuiet
namespace Go.Fur
open Go Go.RowKit Go.Proofs
set_option linter.unusedVariables false
set_option linter.unusedSimpArgs false
theorem mixed15 : Try.prog.follows .mixedOrders = true := by kernel_rfl
def fourP (a b c d : Int) : Int := a + 256 * b + 65536 * c + 16777216 * d
/-- A store in the block q: its disk p, generation, life, tail, place, count, safe ones. -/
def sto (p : Nat) (gen life : Int) (tail : Value) (at_ count safe : Int) : List Value := [.pointer (some ⟨p, 0, none⟩), .int .u32 gen, .int .u32 life, tail, .int .i64 at_, .int .i64 count, .int .i64 safe]
/-- How many blocks a half has. -/
def halfP (d : D) : Nat := (d.now.length - 2) / 2
set_option maxRecDepth 100000 in
set_option maxHeartbeats 1000000 in
theorem half_calls {w : World} {base p bb q : Nat} {lv tail : Value} {d : D} {gen life at_ count safe : Int} (h : DiskAt w base p bb lv d) (hq : Blk w q 67 (sto p gen life tail at_ count safe)) :
    Calls Try.prog 34 #[.pointer (some ⟨q, 0, none⟩)] w fun e w' => e = .returned (.int .i64 (halfP d)) ∧ w = w' := by
  have c0 : w.cell? ⟨q, 0, none⟩ = some (.pointer (some ⟨p, 0, none⟩)) := hq.cellAt rfl
  have HB := Lib.hid (blocks_calls h)
  have hm := h.wf.max
  have hp := h.wf.pos
  unfold halfP
  generalize d.now.length = n at *
  clear h hq
  go_enter Try.func34, Try.ntmps34
  go_wp2_with fail
  refine HB.out.mono ?_
  rintro e w1 ⟨rfl, rfl⟩
  dsimp only
  by_cases h2 : 2 ≤ n
  · have e1 : (n : Int) - 2 = ((n - 2 : Nat) : Int) := by omega
    have e2 : (((n - 2 : Nat) : Int) / 2) = (((n - 2) / 2 : Nat) : Int) := by omega
    have HE := Lib.hid e2
    clear e2
    go_wp2_with fail
    go_ret
    exact ⟨by rw [← HE.out]; rfl, rfl⟩
  · have e1 : n = 1 := by omega
    subst e1
    go_wp2_with fail
    go_ret
    exact ⟨rfl, rfl⟩
/-- Where a block of a generation's half stands. -/
def placeP (d : D) (gen : Nat) (i : Nat) : Nat := 2 + gen % 2 * halfP d + i
set_option maxRecDepth 100000 in
set_option maxHeartbeats 1000000 in
theorem place_calls {w : World} {base p bb q : Nat} {lv tail : Value} {d : D} {gen : Nat} {life at_ count safe : Int} (h : DiskAt w base p bb lv d) (hq : Blk w q 67 (sto p gen life tail at_ count safe)) (i : Nat) (hi : i ≤ 65536) :
    Calls Try.prog 40 #[.pointer (some ⟨q, 0, none⟩), .int .i64 i] w fun e w' => e = .returned (.int .i64 (placeP d gen i)) ∧ ∃ k, w' = w.drewN k := by
  have c1 : w.cell? ⟨q, 1, none⟩ = some (.int .u32 gen) := hq.cellAt rfl
  have HH := Lib.hid (fun (W : World) (f : Fr [] w W) => (half_calls (h.fr0 f) (hq.fr f (by simp))).mono (R' := fun e w' => e = .returned (.int .i64 (halfP d)) ∧ w' = W) (fun e w' hh => ⟨hh.1, hh.2.symm⟩))
  have HQ := Lib.hid hq
  have hm := h.wf.max
  have hh : halfP d ≤ 32768 := by unfold halfP; omega
  unfold placeP
  generalize halfP d = n at *
  have hg : gen % 2 = 0 ∨ gen % 2 = 1 := by omega
  have e1 : ((gen : Int) % 2) = ((gen % 2 : Nat) : Int) := by omega
  generalize gen % 2 = m at *
  clear h hq hm
  go_enter Try.func40, Try.ntmps40
  go_wp2_with fail
  go_quiet ((refine Calls.quiet_of_same (HH.out _ ?_); exact (Fr.refl _ _).drewN _))
  go_wp2_with fail
  go_ret
  have e2 : wrap64 (wrap64 (2 + wrap64 ((m : Int) * (n : Int))) + (i : Int)) = ((2 + m * n + i : Nat) : Int) := by
    rcases hg with rfl | rfl <;> (unfold RowKit.wrap64; simp; omega)
  exact ⟨by rw [← e2]; rfl, nq, rfl⟩
theorem or_low (a b k : Nat) (ha : a < 2 ^ k) (ha2 : a < 4294967296) (hb : 2 ^ k * b < 4294967296) : bits .or .u32 (a : Int) ((2 ^ k * b : Nat) : Int) = ((a + 2 ^ k * b : Nat) : Int) := by
  have h2 := Nat.two_pow_add_eq_or_of_lt (i := k) (b := a) ha b
  rw [u32_or_nat a _ ha2 hb, Nat.or_comm, ← h2, Nat.add_comm]
set_option maxRecDepth 100000 in
set_option maxHeartbeats 1000000 in
theorem four_calls {w : World} {a : Option Addr} {n c : Nat} {x0 x1 x2 x3 : Nat} {l : List Int} (h : Rd w a (bv ((x0 : Int) :: x1 :: x2 :: x3 :: l))) (hn : 4 ≤ n) (hc : n ≤ c) (hm : c ≤ maxLen) (h0 : x0 < 256) (h1 : x1 < 256) (h2 : x2 < 256) (h3 : x3 < 256) :
    Calls Try.prog 29 #[.slice a n c] w fun e w' => e = .returned (.int .u32 ((x0 + 256 * x1 + 65536 * x2 + 16777216 * x3 : Nat) : Int)) ∧ ∃ k, w' = w.drewN k := by
  obtain ⟨b, o, rfl, hr⟩ := h (by simp [bv])
  have c0 : w.cell? ⟨b, o, none⟩ = some (.int .u8 x0) := hr 0 _ rfl
  have c1 : w.cell? ⟨b, o + 1, none⟩ = some (.int .u8 x1) := hr 1 _ rfl
  have c2 : w.cell? ⟨b, o + 2, none⟩ = some (.int .u8 x2) := hr 2 _ rfl
  have c3 : w.cell? ⟨b, o + 3, none⟩ = some (.int .u8 x3) := hr 3 _ rfl
  have n0 : (0 : Int) < (n : Int) := by omega
  have n1 : (1 : Int) < (n : Int) := by omega
  have n2 : (2 : Int) < (n : Int) := by omega
  have n3 : (3 : Int) < (n : Int) := by omega
  clear h hr
  go_enter Try.func29, Try.ntmps29
  go_wp2_with fail
  go_quiet (fail)
  go_wp2_with fail
  go_ret
  have q1 : bits .or .u32 (x0 : Int) ((x1 : Int) * 256) = ((x0 + 256 * x1 : Nat) : Int) := by
    have h := or_low x0 x1 8 (by omega) (by omega) (by omega)
    rwa [show ((2 ^ 8 * x1 : Nat) : Int) = (x1 : Int) * 256 by omega, show x0 + 2 ^ 8 * x1 = x0 + 256 * x1 by omega] at h
  have q2 : bits .or .u32 ((x0 + 256 * x1 : Nat) : Int) ((x2 : Int) * 65536) = ((x0 + 256 * x1 + 65536 * x2 : Nat) : Int) := by
    have h := or_low (x0 + 256 * x1) x2 16 (by omega) (by omega) (by omega)
    rwa [show ((2 ^ 16 * x2 : Nat) : Int) = (x2 : Int) * 65536 by omega, show x0 + 256 * x1 + 2 ^ 16 * x2 = x0 + 256 * x1 + 65536 * x2 by omega] at h
  have q3 : bits .or .u32 ((x0 + 256 * x1 + 65536 * x2 : Nat) : Int) ((x3 : Int) * 16777216) = ((x0 + 256 * x1 + 65536 * x2 + 16777216 * x3 : Nat) : Int) := by
    have h := or_low (x0 + 256 * x1 + 65536 * x2) x3 24 (by omega) (by omega) (by omega)
    rwa [show ((2 ^ 24 * x3 : Nat) : Int) = (x3 : Int) * 16777216 by omega, show x0 + 256 * x1 + 65536 * x2 + 2 ^ 24 * x3 = x0 + 256 * x1 + 65536 * x2 + 16777216 * x3 by omega] at h
  refine ⟨?_, nq, rfl⟩
  rw [← q3, ← q2, ← q1]
  rfl
end Go.Fur
