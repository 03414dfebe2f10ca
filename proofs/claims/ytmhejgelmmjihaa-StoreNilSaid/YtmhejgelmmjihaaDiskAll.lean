/- disk.Disk: each method, whatever it is called with. -/
import Derived.Test.YtmhejgelmmjihaaDiskC
namespace Go.Fur
open Go Go.RowKit Go.Proofs
set_option linter.unusedVariables false
set_option linter.unusedSimpArgs false

/-- All bytes of a disk are bytes. -/
structure D.byt (d : D) : Prop where
  now : ∀ b ∈ d.now, Byt b
  was : ∀ x ∈ d.loose, Byt x.2.1
def D.new (n : Nat) : D := ⟨List.replicate n (zeros 64), []⟩
theorem D.new_byt (n : Nat) : (D.new n).byt := ⟨fun b hb => by rw [List.eq_of_mem_replicate hb]; exact Byt.zeros 64, by simp [D.new]⟩
/-- Write(n, l): the errno, and the disk behind it. -/
def D.write (d : D) (n : Int) (l : List Int) : Int × D :=
  if n < 0 ∨ d.now.length ≤ n then (8, d) else if 64 < l.length then (3, d) else (0, ⟨d.now.set n.toNat (pad l), d.loose ++ [(n.toNat, d.now.getD n.toNat [], pad l)]⟩)
/-- Read(n): the bytes, and the errno. -/
def D.read (d : D) (n : Int) : List Int × Int := if n < 0 ∨ d.now.length ≤ n then ([], 8) else (d.now.getD n.toNat [], 0)
def D.calm (d : D) : D := { d with loose := [] }
/-- Crash(keep). -/
def D.crash (d : D) (keep : Int) : Int × D := if keep < 0 then (1, d) else (0, ⟨undo d keep.toNat, []⟩)
theorem Byt.pad {l : List Int} (h : Byt l) : Byt (pad l) := h.append (Byt.zeros _)
theorem D.byt.write {d : D} (h : d.byt) {n : Int} {l : List Int} (hl : Byt l) : (d.write n l).2.byt := by
  unfold D.write
  split
  · exact h
  · split
    · exact h
    · rename_i h1 h2
      refine ⟨fun b hb => ?_, fun x hx => ?_⟩
      · rcases List.mem_or_eq_of_mem_set hb with hb | rfl
        · exact h.now b hb
        · exact hl.pad
      · simp only [List.mem_append, List.mem_singleton] at hx
        rcases hx with hx | rfl
        · exact h.was x hx
        · have hlt : n.toNat < d.now.length := by omega
          show Byt (d.now.getD n.toNat [])
          rw [List.getD_eq_getElem?_getD, List.getElem?_eq_getElem hlt]
          exact h.now _ (List.getElem_mem hlt)
theorem undo_byt {d : D} (h : d.byt) (k : Nat) : ∀ b ∈ undo d k, Byt b := by
  unfold undo
  have hs : ∀ x ∈ d.loose.drop k, Byt x.2.1 := fun x hx => h.was x (List.mem_of_mem_drop hx)
  generalize d.loose.drop k = r at hs ⊢
  induction r with
  | nil => exact h.now
  | cons x r ih =>
    intro b hb
    rcases List.mem_or_eq_of_mem_set hb with hb | rfl
    · exact ih (fun y hy => hs y (by simp [hy])) b hb
    · exact hs x (by simp)
theorem D.byt.crash {d : D} (h : d.byt) (k : Int) : (d.crash k).2.byt := by
  unfold D.crash
  split
  · exact h
  · exact ⟨undo_byt h _, by simp⟩
theorem D.byt.calm {d : D} (h : d.byt) : d.calm.byt := ⟨h.now, by simp [D.calm]⟩
theorem D.byt.read {d : D} (h : d.byt) (n : Int) : Byt (d.read n).1 := by
  unfold D.read
  split
  · exact Byt.nil
  · rename_i h1
    have hlt : n.toNat < d.now.length := by omega
    show Byt (d.now.getD n.toNat [])
    rw [List.getD_eq_getElem?_getD, List.getElem?_eq_getElem hlt]
    exact h.now _ (List.getElem_mem hlt)
theorem write_length (d : D) (n : Int) (l : List Int) : (d.write n l).2.now.length = d.now.length := by
  unfold D.write
  split
  · rfl
  · split
    · rfl
    · simp
theorem write_loose (d : D) (n : Int) (l : List Int) : (d.write n l).2.loose.length ≤ d.loose.length + 1 := by
  unfold D.write
  split
  · exact Nat.le_succ _
  · split
    · exact Nat.le_succ _
    · simp
theorem write_all {w : World} {base p bb : Nat} {lv : Value} {d : D} (h : DiskAt w base p bb lv d) (hbase : base ≤ w.heap.size) (n : Int) (a : Option Addr) (m c : Nat) (l : List Int) (hl : l.length = m) (hr : Rd w a (bv l)) (hfew : d.loose.length < 1000000000) :
    Calls Try.prog 10 #[.pointer (some ⟨p, 0, none⟩), .int .i64 n, .slice a m c] w fun e w' => ∃ lv', e = .returned (.int .i64 (d.write n l).1) ∧
      DiskAt w' base p bb lv' (d.write n l).2 ∧ Fr (p :: bb :: ob lv) w w' ∧ (∀ k ∈ ob lv', k ∈ ob lv ∨ w.heap.size ≤ k) := by
  subst hl
  by_cases h1 : n < 0 ∨ d.now.length ≤ n
  · have e : d.write n l = (8, d) := by unfold D.write; rw [if_pos h1]
    rw [e]
    exact (write_none h n _ h1).mono fun e w' ⟨he, hw⟩ => hw ▸ ⟨lv, he, h, Fr.refl _ _, fun k hk => .inl hk⟩
  · obtain ⟨j, rfl⟩ := Int.eq_ofNat_of_zero_le (show 0 ≤ n by omega)
    have hj : j < d.now.length := by omega
    by_cases h2 : 64 < l.length
    · have e : d.write j l = (3, d) := by unfold D.write; rw [if_neg h1, if_pos h2]
      rw [e]
      exact (write_long h j hj a l.length c h2).mono fun e w' ⟨he, hw⟩ => hw ▸ ⟨lv, he, h, Fr.refl _ _, fun k hk => .inl hk⟩
    · have hg : d.now[j]? = some (d.now.getD j []) := by rw [List.getD_eq_getElem?_getD, List.getElem?_eq_getElem hj]; rfl
      have e : d.write j l = (0, ⟨d.now.set j (pad l), d.loose ++ [(j, d.now.getD j [], pad l)]⟩) := by unfold D.write; rw [if_neg h1, if_neg h2]; rfl
      rw [e]
      exact write_calls h hbase j _ hg a c l (by omega) hr hfew
theorem read_all {w : World} {base p bb : Nat} {lv : Value} {d : D} (h : DiskAt w base p bb lv d) (n : Int) :
    Calls Try.prog 38 #[.pointer (some ⟨p, 0, none⟩), .int .i64 n] w fun e w' => ∃ v, e = .returned (.tuple #[v, .int .i64 (d.read n).2]) ∧ Own w' w.heap.size 5 1 v (d.read n).1.length (bv (d.read n).1) ∧ Fr [] w w' := by
  by_cases h1 : n < 0 ∨ d.now.length ≤ n
  · have e : d.read n = ([], 8) := by unfold D.read; rw [if_pos h1]
    rw [e]
    exact (read_none h n h1).mono fun e w' ⟨he, hw⟩ => hw ▸ ⟨_, he, Own.nil _ _ _ _, Fr.refl _ _⟩
  · obtain ⟨j, rfl⟩ := Int.eq_ofNat_of_zero_le (show 0 ≤ n by omega)
    have hj : j < d.now.length := by omega
    have hg : d.now[j]? = some (d.now.getD j []) := by rw [List.getD_eq_getElem?_getD, List.getElem?_eq_getElem hj]; rfl
    have e : d.read j = (d.now.getD j [], 0) := by unfold D.read; rw [if_neg h1]; rfl
    rw [e]
    have hl : (d.now.getD j []).length = 64 := h.wf.now _ (List.mem_of_getElem? hg)
    rw [hl]
    exact (read_calls h j _ hg).mono fun e w' ⟨g, cap, he, ho, hf⟩ => ⟨_, he, ho, hf⟩
theorem crash_all {w : World} {base p bb : Nat} {lv : Value} {d : D} (h : DiskAt w base p bb lv d) (keep : Int) :
    Calls Try.prog 36 #[.pointer (some ⟨p, 0, none⟩), .int .i64 keep] w fun e w' => ∃ lv', e = .returned (.int .i64 (d.crash keep).1) ∧
      DiskAt w' base p bb lv' (d.crash keep).2 ∧ Fr [p, bb] w w' ∧ (∀ k ∈ ob lv', k ∈ ob lv) := by
  unfold D.crash
  by_cases hk : keep < 0
  · rw [if_pos hk]
    exact (crash_arg w p keep hk).mono fun e w' ⟨he, hw⟩ => hw ▸ ⟨lv, he, h, Fr.refl _ _, fun k hk => hk⟩
  · rw [if_neg hk]
    exact (crash_calls h keep (by omega)).mono fun e w' ⟨he, hd, hf⟩ => ⟨_, he, hd, hf, fun k hk => by simp at hk⟩
theorem new_all (w : World) (n : Nat) (h1 : 1 ≤ n) (h2 : n ≤ 65536) : Calls Try.prog 9 #[.int .i64 n] w fun e w' => ∃ p bb, e = .returned (.tuple #[.pointer (some ⟨p, 0, none⟩), .int .i64 0]) ∧
    DiskAt w' w.heap.size p bb (.slice none 0 0) (D.new n) ∧ Fr [] w w' :=
  (new_calls w n h1 h2).mono fun e w' ⟨he, hd, hf⟩ => ⟨_, _, he, hd, hf⟩
theorem read_errno (d d' : D) (m : Int) (h : d.now.length = d'.now.length) : (d.read m).2 = (d'.read m).2 := by
  unfold D.read
  rw [h]
  split <;> rfl
theorem read_write_other (d : D) (n m : Int) (l : List Int) (h : n ≠ m) : (d.write n l).2.read m = d.read m := by
  unfold D.read
  rw [write_length]
  by_cases h1 : m < 0 ∨ d.now.length ≤ m
  · rw [if_pos h1, if_pos h1]
  · rw [if_neg h1, if_neg h1]
    unfold D.write
    split
    · rfl
    · split
      · rfl
      · rename_i h2 h3
        simp only
        rw [List.getD_eq_getElem?_getD, List.getD_eq_getElem?_getD, List.getElem?_set_ne (by omega)]
theorem read_write_same (d : D) (n : Int) (l : List Int) (h : (d.write n l).1 = 0) : (d.write n l).2.read n = (pad l, 0) ∧ l.length ≤ 64 := by
  unfold D.write at h ⊢
  split
  · rename_i h1
    rw [if_pos h1] at h
    simp at h
  · rename_i h1
    rw [if_neg h1] at h
    split
    · rename_i h2
      rw [if_pos h2] at h
      simp at h
    · rename_i h2
      refine ⟨?_, by omega⟩
      unfold D.read
      rw [if_neg (by simpa using h1)]
      simp only
      rw [List.getD_eq_getElem?_getD, List.getElem?_set_self (by omega)]
      rfl
theorem pad_take (l : List Int) : (pad l).take l.length = l := by
  unfold pad
  rw [List.take_append_of_le_length (Nat.le_refl _), List.take_length]
end Go.Fur
