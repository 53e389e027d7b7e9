import Derived.Test.YtoiejgmfgcdniaaRead15
set_option linter.unusedVariables false
set_option linter.unusedSimpArgs false
namespace Go.Proofs.Ytoiejgmfgcdniaa
open Go.RowKit Go.Proofs.YtoiejgmfgcdniaaW.PrintWords

/-! ### alternatives at any depth -/
theorem altF_thrift' (toks : List Tok) (en : Int) : ∀ f, Thrift toks (altF toks en f) := altF_thrift toks en
theorem altF_said (w0 : World) (A : Option Addr) (c : Nat) (toks : List Tok) (en : Int) (ht : Kd.C kTok w0 A toks.length toks) (hk : Kinds toks) (htl : toks.length ≤ 10000) : ∀ f, AltSaid w0 A c toks en f (altF toks en f) := by
  intro f
  induction f with
  | zero => intro ok w m s _ _ _ hps hf; omega
  | succ f ih => exact alternatives_any w0 A c toks en f _ ih (altF_mono toks en f) (altF_thrift toks en f) ht hk htl
/-! ### the parser turns neither the rules nor what is given -/
def Keep (alt : RdS → RP) : Prop := ∀ s n s1, alt s = .ok (n, s1) → s1.rules = s.rules ∧ s1.given = s.given
theorem atomW_keep {toks : List Tok} {en : Int} {alt : RdS → RP} (ha : Keep alt) {s s1 : RdS} {n : Int} (h : atomW toks en alt s = .ok (n, s1)) : s1.rules = s.rules ∧ s1.given = s.given := by
  unfold atomW at h
  split at h
  · cases hal : alt (stepS s) with
    | error p => rw [hal] at h; cases h
    | ok r =>
      obtain ⟨k, s2⟩ := r
      rw [hal] at h
      simp only at h
      have h1 := ha _ _ _ hal
      split at h
      · simp only [Except.ok.injEq, Prod.mk.injEq] at h
        obtain ⟨_, rfl⟩ := h
        exact h1
      · cases h
  · cases hx : toks[s.pos]? with
    | none => rw [hx] at h; cases h
    | some x =>
      rw [hx] at h
      simp only at h
      split at h
      · simp only [Except.ok.injEq, layN, Prod.mk.injEq] at h
        obtain ⟨_, rfl⟩ := h
        exact ⟨rfl, rfl⟩
      · cases hn : nameP toks en s.pos with
        | error p => rw [hn] at h; cases h
        | ok u =>
          rw [hn] at h
          simp only [Except.ok.injEq, layN, Prod.mk.injEq] at h
          obtain ⟨_, rfl⟩ := h
          exact ⟨rfl, rfl⟩
theorem itemW_keep {toks : List Tok} {en : Int} {alt : RdS → RP} (ha : Keep alt) {s s1 : RdS} {n : Int} (h : itemW toks en alt s = .ok (n, s1)) : s1.rules = s.rules ∧ s1.given = s.given := by
  unfold itemW at h
  cases hat : atomW toks en alt s with
  | error p => rw [hat] at h; cases h
  | ok r =>
    obtain ⟨k, s2⟩ := r
    rw [hat] at h
    simp only at h
    have h2 := atomW_keep ha hat
    split at h
    · simp only [Except.ok.injEq, layN, Prod.mk.injEq] at h
      obtain ⟨_, rfl⟩ := h
      exact h2
    split at h
    · simp only [Except.ok.injEq, layN, Prod.mk.injEq] at h
      obtain ⟨_, rfl⟩ := h
      exact h2
    split at h
    · simp only [Except.ok.injEq, layN, Prod.mk.injEq] at h
      obtain ⟨_, rfl⟩ := h
      exact h2
    · simp only [Except.ok.injEq, Prod.mk.injEq] at h
      obtain ⟨_, rfl⟩ := h
      exact h2
theorem oneP_keep (kind : Int) (l : List Int) (s : RdS) : (oneP kind l s).2.rules = s.rules ∧ (oneP kind l s).2.given = s.given := by unfold oneP; split <;> exact ⟨rfl, rfl⟩
theorem itemsGo_keep {toks : List Tok} {en : Int} {alt : RdS → RP} (ha : Keep alt) : ∀ (f : Nat) (s : RdS) (l l' : List Int) (s1 : RdS), itemsGo toks en alt f s l = .ok (l', s1) → s1.rules = s.rules ∧ s1.given = s.given := by
  intro f
  induction f with
  | zero => intro s l l' s1 h; simp only [itemsGo, Except.ok.injEq, Prod.mk.injEq] at h; obtain ⟨_, rfl⟩ := h; exact ⟨rfl, rfl⟩
  | succ f ih =>
    intro s l l' s1 h
    rw [itemsGo] at h
    split at h
    · cases hi : itemW toks en alt s with
      | error p => rw [hi] at h; cases h
      | ok r =>
        obtain ⟨k, s2⟩ := r
        rw [hi] at h
        have h2 := itemW_keep ha hi
        have h3 := ih s2 _ _ _ h
        exact ⟨h3.1.trans h2.1, h3.2.trans h2.2⟩
    · simp only [Except.ok.injEq, Prod.mk.injEq] at h; obtain ⟨_, rfl⟩ := h; exact ⟨rfl, rfl⟩
theorem altsGo_keep {toks : List Tok} {en : Int} {alt : RdS → RP} (ha : Keep alt) : ∀ (f : Nat) (s : RdS) (l l' : List Int) (s1 : RdS), altsGo toks en alt f s l = .ok (l', s1) → s1.rules = s.rules ∧ s1.given = s.given := by
  intro f
  induction f with
  | zero => intro s l l' s1 h; simp only [altsGo, Except.ok.injEq, Prod.mk.injEq] at h; obtain ⟨_, rfl⟩ := h; exact ⟨rfl, rfl⟩
  | succ f ih =>
    intro s l l' s1 h
    rw [altsGo] at h
    cases hi : itemsGo toks en alt (toks.length + 1 - s.pos) s [] with
    | error p => rw [hi] at h; cases h
    | ok r =>
      obtain ⟨k, s2⟩ := r
      rw [hi] at h
      simp only at h
      have h2 := itemsGo_keep ha _ _ _ _ _ hi
      have h1 := oneP_keep 1 k s2
      split at h
      · have h3 := ih _ _ _ _ h
        exact ⟨h3.1.trans (h1.1.trans h2.1), h3.2.trans (h1.2.trans h2.2)⟩
      · simp only [Except.ok.injEq, Prod.mk.injEq] at h; obtain ⟨_, rfl⟩ := h; exact ⟨h1.1.trans h2.1, h1.2.trans h2.2⟩
theorem altW_keep {toks : List Tok} {en : Int} {alt : RdS → RP} (ha : Keep alt) : Keep (altW toks en alt) := by
  intro s n s1 h
  unfold altW at h
  cases hi : altsGo toks en alt (toks.length + 1 - s.pos) s [] with
  | error p => rw [hi] at h; cases h
  | ok r =>
    obtain ⟨k, s2⟩ := r
    rw [hi] at h
    simp only [Except.ok.injEq] at h
    have h2 := altsGo_keep ha _ _ _ _ _ hi
    have h3 : s1 = (oneP 2 k s2).2 := by rw [h]
    have h1 := oneP_keep 2 k s2
    rw [h3]
    exact ⟨h1.1.trans h2.1, h1.2.trans h2.2⟩
theorem altF_keep (toks : List Tok) (en : Int) : ∀ f, Keep (altF toks en f) := by
  intro f
  induction f with
  | zero => intro s n s1 h; cases h
  | succ f ih => exact altW_keep ih
/-! ### all rules -/
def giveS (s : RdS) (u : Use) : RdS := { stepS s with given := s.given ++ [u] }
def ruleS (s : RdS) (r : Rule) : RdS := { stepS s with rules := s.rules ++ [r] }
def textGo (toks : List Tok) (en : Int) (alt : RdS → RP) : Nat → RdS → Except Int RdS
  | 0, s => .ok s
  | f + 1, s =>
    match nameP toks en s.pos with
    | .error p => .error p
    | .ok u =>
      if isMark toks (s.pos + 1) (mkB 58) then
        match alt (stepS (giveS s u)) with
        | .error p => .error p
        | .ok (n, s2) =>
          if isMark toks s2.pos (mkB 59) then
            if s2.pos + 1 < toks.length then textGo toks en alt f (ruleS s2 ⟨u.name, n⟩) else .ok (ruleS s2 ⟨u.name, n⟩)
          else .error (failP toks en s2.pos)
      else .error (failP toks en (s.pos + 1))
end Go.Proofs.Ytoiejgmfgcdniaa
