/- A call at a desk: contract of the desk's do. -/
import Derived.Test.YtmhejgelmmjihaaSto16
namespace Go.Fur
open Go Go.RowKit Go.Proofs
set_option linter.unusedVariables false
set_option linter.unusedSimpArgs false
theorem DkAt.fr0 {W w w' : World} {K N p bb q : Nat} {lv tl vs : Value} {al : Option Addr} {cl : Nat} {us : List Value} {d : D} {s : St} {whole : Bool} {snap : List Int} {lst : List (List Int)} (h : DkAt W w K N p bb q lv tl vs al cl us d s whole snap lst) (f : Fr [] w w') : DkAt W w' K N p bb q lv tl vs al cl us d s whole snap lst :=
  ⟨h.fr.trans0 f, h.sto.fr0 f, h.hk.fr f (by simp), h.kb, h.sn.step f (by simp) (fun _ hk => .inl hk), h.ys, h.li.fr0 f, h.cap, h.ls.fr0 f, h.yl, h.dk, h.few, h.blk, h.sl⟩
theorem Dk.fr0 {W w w' : World} {K N : Nat} (h : Dk W K N w) (f : Fr [] w w') : Dk W K N w' := by
  obtain ⟨p, bb, q, lv, tl, vs, al, cl, us, d, s, whole, snap, lst, h⟩ := h
  exact ⟨p, bb, q, lv, tl, vs, al, cl, us, d, s, whole, snap, lst, h.fr0 f⟩
theorem Dk.more {W w : World} {K N N' : Nat} (h : Dk W K N w) (hN : N ≤ N') : Dk W K N' w := by
  obtain ⟨p, bb, q, lv, tl, vs, al, cl, us, d, s, whole, snap, lst, h⟩ := h
  have hfw := h.few
  have h3 : N * 3000 ≤ N' * 3000 := Nat.mul_le_mul_right _ hN
  exact ⟨p, bb, q, lv, tl, vs, al, cl, us, d, s, whole, snap, lst, h.fr, h.sto, h.hk, h.kb, h.sn, h.ys, h.li, h.cap, h.ls, h.yl, h.dk, ⟨by omega, by omega, by omega, by omega⟩, h.blk, h.sl⟩
theorem DkAt.far {W w : World} {K N p bb q : Nat} {lv tl vs : Value} {al : Option Addr} {cl : Nat} {us : List Value} {d : D} {s : St} {whole : Bool} {snap : List Int} {lst : List (List Int)} (h : DkAt W w K N p bb q lv tl vs al cl us d s whole snap lst) {k : Nat} (hk : dkX K p bb q lv tl k) : W.heap.size ≤ k := by
  rcases hk with hk | hk
  · rw [hk]
    exact h.kb
  · exact (stoX_ge h.sto hk).1
theorem DkAt.args {W w : World} {K N p bb q : Nat} {lv tl vs : Value} {al : Option Addr} {cl : Nat} {us : List Value} {d : D} {s : St} {whole : Bool} {snap : List Int} {lst : List (List Int)} (h : DkAt W w K N p bb q lv tl vs al cl us d s whole snap lst) {a : Option Addr} {cs : List Value} (hr : RdA w (fun k => W.heap.size ≤ k) a cs) : RdA w (dkX K p bb q lv tl) a cs :=
  hr.step (Fr.refl [] w) (by simp) (fun k hk => .inl (h.far hk))
theorem sync_dk {W w : World} {K N p bb q : Nat} {lv tl vs : Value} {al : Option Addr} {cl : Nat} {us : List Value} {d : D} {s : St} {whole : Bool} {snap : List Int} {lst : List (List Int)} (h : DkAt W w K N p bb q lv tl vs al cl us d s whole snap lst) {w1 w2 : World}
    (hS : StoAt w1 W.heap.size p bb q (.slice none 0 0) tl d.calm { s with safe := s.count }) (hf : Fr [p, q] w w1) (hB : Blk w2 K 44 (dskC p q (16 * d.now.length - 1024) whole vs (.slice al lst.length cl) lst.length (tookL snap lst))) (hg : Fr [K] w1 w2) : Dk W K (N + 1) w2 := by
  have hKn : K ∉ [p, q] := fun hm => by
    simp only [List.mem_cons, List.not_mem_nil, or_false] at hm
    rcases hm with hm | hm
    · exact h.kn (.inr (.inl (by simp [hm])))
    · exact h.kn (.inl hm)
  have hk1 := h.hk.fr hf hKn
  have S2 := hS.desk hk1 hg
  have hf2 : Fr [p, q, K] w w2 := (hf.mono (fun k hk _ => by simp only [List.mem_cons, List.not_mem_nil, or_false] at hk ⊢; omega)).trans hg (fun k hk _ => by simp only [List.mem_cons, List.not_mem_nil, or_false] at hk ⊢; omega)
  have hT : ∀ k ∈ [p, q, K], dkX K p bb q lv tl k ∨ w.heap.size ≤ k := fun k hk => by
    simp only [List.mem_cons, List.not_mem_nil, or_false] at hk
    rcases hk with hk | hk | hk
    · exact .inl (.inr (.inr (.inl (by simp [hk]))))
    · exact .inl (.inr (.inl hk))
    · exact .inl (.inl hk)
  have hX : ∀ k, dkX K p bb q (.slice none 0 0) tl k → dkX K p bb q lv tl k ∨ w.heap.size ≤ k := fun k hk => by
    rcases hk with hk | hk | hk | hk
    · exact .inl (.inl hk)
    · exact .inl (.inr (.inl hk))
    · simp only [List.mem_cons, ob_nil, List.not_mem_nil, or_false] at hk
      exact .inl (.inr (.inr (.inl (by rcases hk with hk | hk <;> simp [hk]))))
    · exact .inl (.inr (.inr (.inr hk)))
  have hbs := h.fr.size
  have hcn := h.dk.cnt
  have hfw := h.few
  refine ⟨p, bb, q, .slice none 0 0, tl, vs, al, cl, us, d.calm, { s with safe := s.count }, whole, snap, lst, ⟨h.fr.trans hf2 (fun k hk hlt => ?_), S2, ?_, h.kb, h.sn.step hf2 hT hX, h.ys, h.li.step hf2 hT hX, h.cap, h.ls.step hf2 hT hX, h.yl, h.dk.calm, ⟨by dsimp only; omega, by dsimp only; omega, by simp [D.calm], by omega⟩, h.blk, h.sl⟩⟩
  · rcases hT k hk with h1 | h1
    · have := h.far h1
      omega
    · omega
  · dsimp only [D.calm]
    rw [hcn]
    exact hB
set_option maxRecDepth 100000 in
set_option maxHeartbeats 8000000 in
theorem ddo_calls {W w : World} {K N : Nat} (h : Dk W K N w) (hN : N ≤ 999) (kind keep : Int) (hkp : keep ≤ 9223372036854775807) (a : Option Addr) (m c : Nat) (l : List Int) (hm : l.length = m) (hr : RdA w (fun k => W.heap.size ≤ k) a (bv l)) (hl : Byt l) (hmc : m ≤ maxLen) :
    Calls Try.prog 24 #[.pointer (some ⟨K, 0, none⟩), .agg #[.int .i64 kind, .int .i64 keep, .slice a m c]] w fun e w' => e = .returned (.bool true) ∧ Dk W K (N + 1) w' := by
  have HH := Lib.hid h
  have HR := Lib.hid hr
  have HL := Lib.hid (And.intro hl hm)
  clear h hr hl hm
  go_enter Try.func24, Try.ntmps24
  go_upto_block 0 with (refine wpList_boxB rfl 52 _ rfl [.int .i64 kind, .int .i64 keep, .slice a m c] (by rfl) ?_; intro w1 B1 F1 S1; have c10 : w1.cell? ⟨w.heap.size, 0, none⟩ = some (.int .i64 kind) := B1.cellAt rfl; have c11 : w1.cell? ⟨w.heap.size, 1, none⟩ = some (.int .i64 keep) := B1.cellAt rfl; have c12 : w1.cell? ⟨w.heap.size, 2, none⟩ = some (.slice a m c) := B1.cellAt rfl; have HF1 := Lib.hid F1; have HD1 := Lib.hid (HH.out.fr0 F1); obtain ⟨p, bb, q, lv, tl, vs, al, cl, us, d, s, whole, snap, lst, h1⟩ := HD1.out; have c1 : w1.cell? ⟨K, 1, none⟩ = some (.pointer (some ⟨q, 0, none⟩)) := h1.hk.cellAt rfl; have H1 := Lib.hid h1; clear h1 B1 F1 S1)
  go_cut [5] from 8 to 42 (fun s5 wx => s5 = .bool true ∧ Dk W K (N + 1) wx)
  case first =>
    by_cases k0 : kind = 0
    · subst k0
      go_wp2_with fail
      refine (dapp_calls H1.out (by omega) a m c l HL.out.2 (H1.out.args (HR.out.fr0 HF1.out)) HL.out.1 hmc).mono ?_
      rintro e w2 ⟨rfl, H2⟩
      dsimp only
      have HE := Lib.hid H2
      clear H2
      go_wp2_with fail
      go_meet
      exact ⟨rfl, HE.out⟩
    · have b0 : (kind == 0) = false := by simp [k0]
      by_cases k1 : kind = 1
      · subst k1
        go_wp2_with fail
        refine (ssync_calls H1.out.sto).mono ?_
        rintro e w2 ⟨rfl, S2, F2⟩
        have hKn : K ∉ [p, q] := fun hm => by
          simp only [List.mem_cons, List.not_mem_nil, or_false] at hm
          rcases hm with hm | hm
          · exact H1.out.kn (.inr (.inl (by simp [hm])))
          · exact H1.out.kn (.inl hm)
        have B2 := H1.out.hk.fr F2 hKn
        have c25 : w2.cell? ⟨K, 5, none⟩ = some (.slice al lst.length cl) := B2.cellAt rfl
        have HB2 := Lib.hid B2
        have HS2 := Lib.hid S2
        have HF2 := Lib.hid F2
        clear B2 S2 F2 c1 c10 c11 c12
        dsimp only
        go_wp2_with (refine wpList_store1 rfl 3 _ _ rfl K 6 (.int .i64 lst.length) (by rfl) (by rfl) rfl 44 _ HB2.out (by simp [dskC]) (by kernel_rfl) rfl ?_; intro w3 B3 F3 S3; have HB3 := Lib.hid (show Blk w3 K 44 (dskC p q (16 * d.now.length - 1024) whole vs (.slice al lst.length cl) lst.length (tookL snap lst)) from B3); have HF3 := Lib.hid F3; have HE := Lib.hid (sync_dk H1.out HS2.out HF2.out HB3.out HF3.out); clear B3 F3 S3)
        go_meet
        exact ⟨rfl, HE.out⟩
      · have b1 : (kind == 1) = false := by simp [k1]
        by_cases k2 : kind = 2
        · subst k2
          go_wp2_with fail
          refine (dchk_calls H1.out (by omega) a m c l HL.out.2 (H1.out.args (HR.out.fr0 HF1.out)) HL.out.1 hmc).mono ?_
          rintro e w2 ⟨rfl, H2⟩
          dsimp only
          have HE := Lib.hid H2
          clear H2
          go_wp2_with fail
          go_meet
          exact ⟨rfl, HE.out⟩
        · have b2 : (kind == 2) = false := by simp [k2]
          by_cases k3 : kind = 3
          · subst k3
            go_wp2_with fail
            · refine (dcr_calls H1.out (by omega) 0 (by omega)).mono ?_
              rintro e w2 ⟨rfl, H2⟩
              dsimp only
              have HE := Lib.hid H2
              clear H2
              go_wp2_with fail
              go_meet
              exact ⟨rfl, HE.out⟩
            · obtain ⟨kk, hkk⟩ : ∃ kk : Nat, keep = kk := ⟨keep.toNat, by omega⟩
              subst hkk
              refine (dcr_calls H1.out (by omega) kk (by omega)).mono ?_
              rintro e w2 ⟨rfl, H2⟩
              dsimp only
              have HE := Lib.hid H2
              clear H2
              go_wp2_with fail
              go_meet
              exact ⟨rfl, HE.out⟩
          · have b3 : (kind == 3) = false := by simp [k3]
            have HE := Lib.hid (HD1.out.more (Nat.le_succ N))
            go_wp2_with fail
            go_meet
            exact ⟨rfl, HE.out⟩
  case rest =>
    obtain ⟨h5, H2⟩ := hcut
    subst h5
    clear c1 c10 c11 c12 H1 HD1
    obtain ⟨p', bb', q', lv', tl', vs', al', cl', us', d', s', whole', snap', lst', h'⟩ := H2
    have c1' : wc.cell? ⟨K, 1, none⟩ = some (.pointer (some ⟨q', 0, none⟩)) := h'.hk.cellAt rfl
    have c5' : wc.cell? ⟨K, 5, none⟩ = some (.slice al' lst'.length cl') := h'.hk.cellAt rfl
    have c6' : wc.cell? ⟨K, 6, none⟩ = some (.int .i64 s'.safe) := h'.hk.cellAt rfl
    have HQ1 : Hid (∀ j, Calls Try.prog 15 #[.pointer (some ⟨q', 0, none⟩)] (wc.drewN j) fun e w' => e = .returned (.int .i64 lst'.length) ∧ ∃ m, w' = wc.drewN m) := Lib.hid (fun j => (slen_calls (h'.fr0 ((Fr.refl [] _).drewN j)).sto).mono (fun e w' hw' => ⟨by rw [hw'.1, h'.dk.cnt], j, hw'.2.symm⟩))
    have HQ2 : Hid (∀ j, Calls Try.prog 16 #[.pointer (some ⟨q', 0, none⟩)] (wc.drewN j) fun e w' => e = .returned (.int .i64 s'.safe) ∧ ∃ m, w' = wc.drewN m) := Lib.hid (fun j => (ssafe_calls (h'.fr0 ((Fr.refl [] _).drewN j)).sto).mono (fun e w' hw' => ⟨hw'.1, j, hw'.2.symm⟩))
    have HD := Lib.hid (show Dk W K (N + 1) wc from ⟨p', bb', q', lv', tl', vs', al', cl', us', d', s', whole', snap', lst', h'⟩)
    clear h'
    try dsimp only
    go_wp2_with fail
    go_quiet (first | exact HQ1.out _ | exact HQ2.out _)
    go_wp2_with fail
    go_ret
    exact ⟨rfl, HD.out.fr0 ((Fr.refl [] _).drewN _)⟩
end Go.Fur
