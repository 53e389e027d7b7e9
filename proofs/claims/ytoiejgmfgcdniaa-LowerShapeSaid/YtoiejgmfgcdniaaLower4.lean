import Derived.Test.YtoiejgmfgcdniaaLower3
set_option linter.unusedVariables false
set_option linter.unusedSimpArgs false
namespace Go.Proofs.Ytoiejgmfgcdniaa
open Go.RowKit Go.Proofs.YtoiejgmfgcdniaaW.PrintWords
open Go.Maps (Keyed)

/-! ### term -/
theorem idxFrom_append {α : Type} (p : α → Bool) (x : α) (xs : List α) : ∀ i, idxFrom p i (xs ++ [x]) = if idxFrom p i xs < 0 then (if p x then ((i + xs.length : Nat) : Int) else -1) else idxFrom p i xs := by
  induction xs with
  | nil => intro i; simp [idxFrom]
  | cons y ys ih =>
    intro i
    by_cases hy : p y
    · have e : idxFrom p i (y :: ys) = i := by rw [idxFrom, if_pos hy]
      rw [e, List.cons_append, idxFrom, if_pos hy, if_neg (by omega)]
    · have e : idxFrom p i (y :: ys) = idxFrom p (i + 1) ys := by rw [idxFrom, if_neg hy]
      rw [e, List.cons_append, idxFrom, if_neg hy, ih, List.length_cons, show i + 1 + ys.length = i + (ys.length + 1) by omega]
theorem idxFrom_ge {α : Type} (p : α → Bool) (xs : List α) : ∀ i, -1 ≤ idxFrom p i xs := by
  induction xs with
  | nil => intro i; simp [idxFrom]
  | cons y ys ih => intro i; unfold idxFrom; split; omega; exact ih _
theorem idxFrom_le {α : Type} (p : α → Bool) (xs : List α) : ∀ i, idxFrom p i xs < 0 ∨ (i : Int) ≤ idxFrom p i xs ∧ idxFrom p i xs < i + xs.length := by
  induction xs with
  | nil => intro i; simp [idxFrom]
  | cons y ys ih =>
    intro i; unfold idxFrom; split
    · right; simp only [List.length_cons]; omega
    · rcases ih (i + 1) with h | h
      · exact .inl h
      · right; simp only [List.length_cons]; omega
theorem termF_append {names : List ByteArray} {x : ByteArray} (h : termF names x = none) (y : ByteArray) : termF (names ++ [x]) y = upd (termF names) x names.length y := by
  unfold termF upd at *
  unfold idxOf at *
  rw [idxFrom_append]
  by_cases hy : y = x
  · subst hy
    have h0 : idxFrom (fun z => decide (z = y)) 0 names < 0 := by
      by_cases h0 : idxFrom (fun z => decide (z = y)) 0 names < 0
      · exact h0
      · rw [if_neg h0] at h; cases h
    simp [h0]
  · have hx : decide (x = y) = false := decide_eq_false (fun e => hy e.symm)
    simp only [hx, if_neg hy]
    by_cases h0 : idxFrom (fun z => decide (z = y)) 0 names < 0 <;> simp [h0]
theorem termF_none {names : List ByteArray} {x : ByteArray} : termF names x = none ↔ x ∉ names := by
  unfold termF
  have := (idxFrom_any (fun z => decide (z = x)) names 0).2
  unfold idxOf
  constructor
  · intro h hx
    by_cases h0 : idxFrom (fun z => decide (z = x)) 0 names < 0
    · have := this.1 h0
      rw [List.any_eq_false] at this
      exact this x hx (by simp)
    · rw [if_neg h0] at h; cases h
  · intro h
    rw [if_pos (this.2 (List.any_eq_false.2 fun z hz => by simp; rintro rfl; exact h hz))]
theorem isSome_no {α : Type} {o : Option α} (h : o.isSome = false) : o = none := by cases o <;> simp_all
def termNames (s : LowS) (x : ByteArray) : List ByteArray := if (termF s.names x).isSome then s.names else s.names ++ [x]
def TermPost (B N : Nat) (rv tv : Value) (w : World) (m : LowM) (s : LowS) (x : ByteArray) (e : Ending) (w' : World) : Prop :=
  e = .returned (.tuple #[]) ∧ ∃ nv, LSt B (N + 1) rv tv w' { m with nv := nv } { s with names := termNames s x } ∧ Fr B [m.bt] [98, 9] w w'
set_option maxRecDepth 100000 in
set_option maxHeartbeats 1000000 in
theorem term_any (B N : Nat) (rv tv : Value) (w : World) (m : LowM) (s : LowS) (x : ByteArray) (h : LSt B N rv tv w m s) (hB : B ≤ w.heap.size) (hx : x.size ≤ 140737488351232) (hn : s.names.length ≤ 1000000) (hN : N ≤ 1000000) :
    Calls Try.prog 97 #[.pointer (some ⟨m.g, 0, none⟩), .string x] w (TermPost B N rv tv w m s x) := by
  have HK := Lib.hid (keyS x (by unfold maxLen; omega))
  obtain ⟨_, _, d2, d3, _, _, _⟩ := h.cs
  have hgl := blk_lt h.cells
  have hgf : w.frozen? ⟨m.g, 2, none⟩ = false := blk_frozen h.cells 2
  have hlk := h.terms.lookOk (T := 95) lawS Try.underlying95 HK.out
  have H := Lib.hid h
  clear h
  obtain ⟨g, bt, br, bo, nv, pv⟩ := m
  simp only at d2 d3 hgl hgf hlk
  obtain ⟨A, c, hvs⟩ := Kd.R_slice H.out.names
  simp only at hvs
  subst hvs
  cases hf : (termF s.names x).isSome
  · rw [hf] at hlk
    have hs : termNames s x = s.names ++ [x] := by unfold termNames; rw [hf]; rfl
    have HS := Lib.hid hs
    have HFN := Lib.hid hf
    generalize (termF s.names x).getD 0 = v at hlk
    clear hf hs
    go_enter Try.func97, Try.ntmps97
    go_wp2_with fail
    refine wp_region_later_tail 10 (by kernel_rfl) (by kernel_rfl) ?_
    simp only [List.take_succ_cons, List.take_zero, List.drop_succ_cons, List.drop_zero]
    have l0 := Later.cell d2
    have l1 := Later.cell d3
    repeat (go_big_quiet_step (fail))
    refine wpQuiet_nil ?_
    intro y
    have HY := Lib.hid (H.out.below y.below)
    refine wpList_put (f := termF s.names) (sz := s.names.length) (n := N) y.val rfl (.tmp 20) (.tmp 21) (.tmp 26) rfl lawS Try.underlying95 klS_inj rfl HY.out.terms (by unfold maxLen; omega) (key := x) rfl HK.out (c := s.names.length) rfl (WalkArith.wf_i64 (by omega)) ?_
    intro w2 hm2 hg2 hs2
    have HL2 := Lib.hid (show B ≤ w2.heap.size by have := y.below.size; omega)
    have hF2 : Fr B [bt] [] y.val w2 := Fr.mapSet HY.out.terms (by simp) H.out.t0 hg2
    rw [HFN.out] at hm2
    have HM2 := Lib.hid (hm2.congr (termF_append (isSome_no HFN.out)))
    have hc2 := hF2.blk HY.out.cells (by simp) (by simpa using HY.out.terms.heap)
    have HF2 := Lib.hid hF2
    have HC2 := Lib.hid hc2
    have HN2 := Lib.hid (hF2.R HY.out.names (by simp) (by simpa using HY.out.terms.heap))
    have d2' : w2.cell? ⟨g, 2, none⟩ = some (.slice A s.names.length c) := (blk_cell hc2 2).trans rfl
    have hgl2 := blk_lt hc2
    have hgf2 : w2.frozen? ⟨g, 2, none⟩ = false := blk_frozen hc2 2
    have HB2 := Lib.hid (hF2.toBelow (Nat.le_trans hB y.below.size))
    clear hm2 hg2 hF2 hc2 hs2 hgl hgf d2 d3 hlk l0 l1
    go_wp2_with (at_builtin; refine Kd.R_append Kd.string (w0 := w2) B rfl (.tmp 31) (.tmp 33) 31 9 _ 16 rfl Try.underlying31 info9 rfl (by decide) (by omega) _ s.names x [.string x] (fun _ => True) (fun k => True ∧ some k ≠ (Value.slice A s.names.length c).ownBlock) rfl rfl rfl (fun _ hk => hk) (fun _ _ => trivial) HN2.out (Below.refl _ _) HL2.out (by omega) ?_; intro v1 w1 ho hb1 hg _; have HO := Lib.hid ho; have HG := Lib.hid (Fr.grown (B := B) (Ms := []) (T := [9]) HN2.out (by simp) (Nat.le_refl _) hg); have hcell := HG.out.blk HC2.out (by decide) (by simp); clear ho hg hb1; have HC := Lib.hid hcell; obtain ⟨av, cv, hsv⟩ := Kd.R_slice HO.out; rw [List.length_append, List.length_singleton] at hsv; subst hsv; have d6' : w1.cell? ⟨g, 2, none⟩ = some (.slice A s.names.length c) := (blk_cell hcell 2).trans rfl; have f6' : w1.frozen? ⟨g, 2, none⟩ = false := blk_frozen hcell 2; have hgl' := blk_lt hcell; clear hcell)
    go_end0
    have hF : Fr B [] [98, 9] w2 (w1.setCell ⟨g, 2, none⟩ (.slice av (s.names.length + 1) cv)) := (HG.out.mono (fun _ h => h) (by decide) (Nat.le_refl _)).trans (Fr.set HC.out (by decide) H.out.g0)
    have hF1 : Fr B [bt] [] w w2 := (Fr.of_below y.below).trans HF2.out
    refine ⟨rfl, _, ⟨(blk_set HC.out 2 _).trans rfl, ?_, ?_, ?_, ?_, ?_, H.out.ne1, H.out.ne2, H.out.ne3, H.out.g0, H.out.t0, H.out.r0, H.out.o0⟩, (hF1.mono (fun _ h => h) (by simp) (Nat.le_refl _)).trans (hF.mono (by simp) (fun _ h => h) (Nat.le_refl _))⟩
    · rw [HS.out]; exact Kd.R_set HO.out HC.out (by decide) 2 _
    · rw [HS.out]; have := hF.map HM2.out (by simp); simpa using this
    · exact (hF.map (hF1.map H.out.rules (by simpa using H.out.ne1.symm)) (by simp)).mono (by omega)
    · exact (hF.map (hF1.map H.out.own (by simpa using H.out.ne2.symm)) (by simp)).mono (by omega)
    · exact hF.R (hF1.R H.out.prods (by simp) (by simpa using H.out.terms.heap)) (by decide) (by simp)
  · rw [hf] at hlk
    have hs : termNames s x = s.names := by unfold termNames; rw [hf]; rfl
    have HS := Lib.hid hs
    generalize (termF s.names x).getD 0 = v at hlk
    clear hf hs
    go_enter Try.func97, Try.ntmps97
    go_wp2_with fail
    go_end0
    exact ⟨rfl, _, by rw [HS.out]; exact H.out.mono (by omega), Fr.refl _ _ _ _⟩
end Go.Proofs.Ytoiejgmfgcdniaa
