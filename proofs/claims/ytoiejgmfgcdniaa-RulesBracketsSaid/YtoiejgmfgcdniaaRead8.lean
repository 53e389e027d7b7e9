import Derived.Test.YtoiejgmfgcdniaaRead7
set_option linter.unusedVariables false
set_option linter.unusedSimpArgs false
namespace Go.Proofs.Ytoiejgmfgcdniaa
open Go.RowKit Go.Proofs.YtoiejgmfgcdniaaW.PrintWords

/-! ### the parser goes on, and not past the end -/
def Mono (toks : List Tok) (alt : RdS → RP) : Prop := ∀ s n s1, s.pos ≤ toks.length → alt s = .ok (n, s1) → s.pos ≤ s1.pos ∧ s1.pos ≤ toks.length
theorem atomW_mono {toks : List Tok} {en : Int} {alt : RdS → RP} (ha : Mono toks alt) {s s1 : RdS} {n : Int} (hs : s.pos < toks.length) (h : atomW toks en alt s = .ok (n, s1)) : s.pos < s1.pos ∧ s1.pos ≤ toks.length := by
  unfold atomW at h
  split at h
  · cases hal : alt (stepS s) with
    | error p => rw [hal] at h; cases h
    | ok r =>
      obtain ⟨k, s2⟩ := r
      rw [hal] at h
      simp only at h
      have := ha _ _ _ (by show s.pos + 1 ≤ _; omega) hal
      simp only [stepS] at this
      split at h
      · rename_i hm
        have := isMark_lt hm
        simp only [Except.ok.injEq, Prod.mk.injEq] at h
        obtain ⟨_, rfl⟩ := h
        show s.pos < s2.pos + 1 ∧ s2.pos + 1 ≤ _
        omega
      · cases h
  · cases hx : toks[s.pos]? with
    | none => rw [hx] at h; cases h
    | some x =>
      rw [hx] at h
      simp only at h
      split at h
      · simp only [Except.ok.injEq, layN, Prod.mk.injEq] at h
        obtain ⟨_, rfl⟩ := h
        show s.pos < s.pos + 1 ∧ s.pos + 1 ≤ _
        omega
      · cases hn : nameP toks en s.pos with
        | error p => rw [hn] at h; cases h
        | ok u =>
          rw [hn] at h
          simp only [Except.ok.injEq, layN, Prod.mk.injEq] at h
          obtain ⟨_, rfl⟩ := h
          show s.pos < s.pos + 1 ∧ s.pos + 1 ≤ _
          omega
theorem itemW_mono {toks : List Tok} {en : Int} {alt : RdS → RP} (ha : Mono toks alt) {s s1 : RdS} {n : Int} (hs : s.pos < toks.length) (h : itemW toks en alt s = .ok (n, s1)) : s.pos < s1.pos ∧ s1.pos ≤ toks.length := by
  unfold itemW at h
  cases hat : atomW toks en alt s with
  | error p => rw [hat] at h; cases h
  | ok r =>
    obtain ⟨k, s2⟩ := r
    rw [hat] at h
    simp only at h
    have h2 := atomW_mono ha hs hat
    split at h
    · rename_i hm
      have := isMark_lt hm
      simp only [Except.ok.injEq, layN, Prod.mk.injEq] at h
      obtain ⟨_, rfl⟩ := h
      show s.pos < s2.pos + 1 ∧ s2.pos + 1 ≤ _
      omega
    split at h
    · rename_i hm
      have := isMark_lt hm
      simp only [Except.ok.injEq, layN, Prod.mk.injEq] at h
      obtain ⟨_, rfl⟩ := h
      show s.pos < s2.pos + 1 ∧ s2.pos + 1 ≤ _
      omega
    split at h
    · rename_i hm
      have := isMark_lt hm
      simp only [Except.ok.injEq, layN, Prod.mk.injEq] at h
      obtain ⟨_, rfl⟩ := h
      show s.pos < s2.pos + 1 ∧ s2.pos + 1 ≤ _
      omega
    · simp only [Except.ok.injEq, Prod.mk.injEq] at h
      obtain ⟨_, rfl⟩ := h
      exact h2
theorem beginsB_lt {toks : List Tok} {p : Nat} (h : beginsB toks p = true) : p < toks.length := by
  unfold beginsB at h
  cases hx : toks[p]? with
  | none => rw [hx] at h; cases h
  | some t => exact (List.getElem?_eq_some_iff.1 hx).1
theorem itemsGo_mono {toks : List Tok} {en : Int} {alt : RdS → RP} (ha : Mono toks alt) : ∀ (f : Nat) (s : RdS) (l l' : List Int) (s1 : RdS), s.pos ≤ toks.length → itemsGo toks en alt f s l = .ok (l', s1) → s.pos ≤ s1.pos ∧ s1.pos ≤ toks.length := by
  intro f
  induction f with
  | zero => intro s l l' s1 hs h; simp only [itemsGo, Except.ok.injEq, Prod.mk.injEq] at h; obtain ⟨_, rfl⟩ := h; omega
  | succ f ih =>
    intro s l l' s1 hs h
    rw [itemsGo] at h
    split at h
    · rename_i hb
      cases hi : itemW toks en alt s with
      | error p => rw [hi] at h; cases h
      | ok r =>
        obtain ⟨k, s2⟩ := r
        rw [hi] at h
        simp only at h
        have h2 := itemW_mono ha (beginsB_lt hb) hi
        have := ih s2 _ _ _ h2.2 h
        omega
    · simp only [Except.ok.injEq, Prod.mk.injEq] at h; obtain ⟨_, rfl⟩ := h; omega
theorem oneP_pos (kind : Int) (l : List Int) (s : RdS) : (oneP kind l s).2.pos = s.pos := by unfold oneP; split <;> rfl
theorem altsGo_mono {toks : List Tok} {en : Int} {alt : RdS → RP} (ha : Mono toks alt) : ∀ (f : Nat) (s : RdS) (l l' : List Int) (s1 : RdS), s.pos ≤ toks.length → altsGo toks en alt f s l = .ok (l', s1) → s.pos ≤ s1.pos ∧ s1.pos ≤ toks.length := by
  intro f
  induction f with
  | zero => intro s l l' s1 hs h; simp only [altsGo, Except.ok.injEq, Prod.mk.injEq] at h; obtain ⟨_, rfl⟩ := h; omega
  | succ f ih =>
    intro s l l' s1 hs h
    rw [altsGo] at h
    cases hi : itemsGo toks en alt (toks.length + 1 - s.pos) s [] with
    | error p => rw [hi] at h; cases h
    | ok r =>
      obtain ⟨k, s2⟩ := r
      rw [hi] at h
      simp only at h
      have h2 := itemsGo_mono ha _ _ _ _ _ hs hi
      split at h
      · rename_i hm
        have h3 := isMark_lt hm
        rw [oneP_pos] at h3
        have := ih _ _ _ _ (by show (oneP 1 k s2).2.pos + 1 ≤ _; rw [oneP_pos]; omega) h
        simp only [stepS, oneP_pos] at this
        omega
      · simp only [Except.ok.injEq, Prod.mk.injEq] at h; obtain ⟨_, rfl⟩ := h; rw [oneP_pos]; omega
theorem altW_mono {toks : List Tok} {en : Int} {alt : RdS → RP} (ha : Mono toks alt) : Mono toks (altW toks en alt) := by
  intro s n s1 hs h
  unfold altW at h
  cases hi : altsGo toks en alt (toks.length + 1 - s.pos) s [] with
  | error p => rw [hi] at h; cases h
  | ok r =>
    obtain ⟨k, s2⟩ := r
    rw [hi] at h
    simp only [Except.ok.injEq] at h
    have h2 := altsGo_mono ha _ _ _ _ _ hs hi
    have h3 : s1 = (oneP 2 k s2).2 := by rw [h]
    rw [h3, oneP_pos]
    exact h2
theorem altF_mono (toks : List Tok) (en : Int) : ∀ f, Mono toks (altF toks en f) := by
  intro f
  induction f with
  | zero => intro s n s1 _ h; cases h
  | succ f ih => exact altW_mono ih
end Go.Proofs.Ytoiejgmfgcdniaa
