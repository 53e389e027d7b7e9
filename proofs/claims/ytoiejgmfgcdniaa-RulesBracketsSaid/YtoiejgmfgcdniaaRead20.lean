import Derived.Test.YtoiejgmfgcdniaaRead19
set_option linter.unusedVariables false
set_option linter.unusedSimpArgs false
namespace Go.Proofs.Ytoiejgmfgcdniaa
open Go.RowKit Go.Proofs.YtoiejgmfgcdniaaW.PrintWords

/-! ### what holds along the whole parser -/
structure Clo (toks : List Tok) (en : Int) (P : RdS → RdS → Prop) (E : Int → Prop) : Prop where
  refl : ∀ s, P s s
  trans : ∀ {a b c}, P a b → P b c → P a c
  step : ∀ s, P s (stepS s)
  lay : ∀ s x, P s (layN s x).2
  use : ∀ s u, nameP toks en s.pos = .ok u → P s { stepS s with used := s.used ++ [u] }
  zero : E 0
  fail : ∀ p, E (failP toks en p)
  name : ∀ s p, nameP toks en s = .error p → E p
def CloR (P : RdS → RdS → Prop) (E : Int → Prop) {α : Type} (s : RdS) : Except Int (α × RdS) → Prop
  | .ok r => P s r.2
  | .error p => E p
section
variable {toks : List Tok} {en : Int} {P : RdS → RdS → Prop} {E : Int → Prop} {alt : RdS → RP}
theorem one_clo (h : Clo toks en P E) (kind : Int) (l : List Int) (s : RdS) : P s (oneP kind l s).2 := by
  unfold oneP
  split
  · exact h.refl _
  · exact h.lay s ⟨kind, ⟨#[]⟩, l⟩
theorem atom_clo (h : Clo toks en P E) (ha : ∀ s, CloR P E s (alt s)) (s : RdS) : CloR P E s (atomW toks en alt s) := by
  unfold atomW
  split
  · have h1 := ha (stepS s)
    cases hal : alt (stepS s) with
    | error p => rw [hal] at h1; exact h1
    | ok r =>
      obtain ⟨n, s1⟩ := r
      rw [hal] at h1
      simp only
      split
      · exact h.trans (h.step s) (h.trans h1 (h.step s1))
      · exact h.fail _
  · cases hx : toks[s.pos]? with
    | none => exact h.zero
    | some x =>
      simp only
      split
      · exact h.trans (h.step s) (h.lay _ _)
      · cases hn : nameP toks en s.pos with
        | error p => exact h.name _ _ hn
        | ok u => exact h.trans (h.use s u hn) (h.lay _ _)
theorem item_clo (h : Clo toks en P E) (ha : ∀ s, CloR P E s (alt s)) (s : RdS) : CloR P E s (itemW toks en alt s) := by
  unfold itemW
  have h1 := atom_clo h ha s
  cases hat : atomW toks en alt s with
  | error p => rw [hat] at h1; exact h1
  | ok r =>
    obtain ⟨n, s1⟩ := r
    rw [hat] at h1
    simp only
    split
    · exact h.trans h1 (h.trans (h.step _) (h.lay _ _))
    split
    · exact h.trans h1 (h.trans (h.step _) (h.lay _ _))
    split
    · exact h.trans h1 (h.trans (h.step _) (h.lay _ _))
    · exact h1
theorem items_clo (h : Clo toks en P E) (ha : ∀ s, CloR P E s (alt s)) : ∀ (f : Nat) (s : RdS) (l : List Int), CloR P E s (itemsGo toks en alt f s l) := by
  intro f
  induction f with
  | zero => intro s l; exact h.refl s
  | succ f ih =>
    intro s l
    rw [itemsGo]
    split
    · have h1 := item_clo h ha s
      cases hi : itemW toks en alt s with
      | error p => rw [hi] at h1; exact h1
      | ok r =>
        obtain ⟨n, s1⟩ := r
        rw [hi] at h1
        simp only
        have h2 := ih s1 (l ++ [n])
        cases hg : itemsGo toks en alt f s1 (l ++ [n]) with
        | error p => rw [hg] at h2; exact h2
        | ok r => rw [hg] at h2; exact h.trans h1 h2
    · exact h.refl s
theorem alts_clo (h : Clo toks en P E) (ha : ∀ s, CloR P E s (alt s)) : ∀ (f : Nat) (s : RdS) (l : List Int), CloR P E s (altsGo toks en alt f s l) := by
  intro f
  induction f with
  | zero => intro s l; exact h.refl s
  | succ f ih =>
    intro s l
    rw [altsGo]
    have h1 := items_clo h ha (toks.length + 1 - s.pos) s []
    cases hi : itemsGo toks en alt (toks.length + 1 - s.pos) s [] with
    | error p => rw [hi] at h1; exact h1
    | ok r =>
      obtain ⟨k, s1⟩ := r
      rw [hi] at h1
      simp only
      have h2 := h.trans h1 (one_clo h 1 k s1)
      split
      · have h3 := ih (stepS (oneP 1 k s1).2) (l ++ [(oneP 1 k s1).1])
        cases hg : altsGo toks en alt f (stepS (oneP 1 k s1).2) (l ++ [(oneP 1 k s1).1]) with
        | error p => rw [hg] at h3; exact h3
        | ok r => rw [hg] at h3; exact h.trans h2 (h.trans (h.step _) h3)
      · exact h2
theorem alt_clo (h : Clo toks en P E) : ∀ (f : Nat) (s : RdS), CloR P E s (altF toks en f s) := by
  intro f
  induction f with
  | zero => intro s; exact h.zero
  | succ f ih =>
    intro s
    show CloR P E s (altW toks en (altF toks en f) s)
    unfold altW
    have h1 := alts_clo h ih (toks.length + 1 - s.pos) s []
    cases hi : altsGo toks en (altF toks en f) (toks.length + 1 - s.pos) s [] with
    | error p => rw [hi] at h1; exact h1
    | ok r =>
      obtain ⟨k, s1⟩ := r
      rw [hi] at h1
      exact h.trans h1 (one_clo h 2 k s1)
theorem text_clo (h : Clo toks en P E) (hg : ∀ s u, nameP toks en s.pos = .ok u → P s (giveS s u)) (hr : ∀ s r, P s (ruleS s r)) (F : Nat) : ∀ (f : Nat) (s : RdS), match textGo toks en (altF toks en F) f s with | .ok s1 => P s s1 | .error p => E p := by
  intro f
  induction f with
  | zero => intro s; exact h.refl s
  | succ f ih =>
    intro s
    rw [textGo]
    cases hn : nameP toks en s.pos with
    | error p => exact h.name _ _ hn
    | ok u =>
      simp only
      by_cases h1 : isMark toks (s.pos + 1) (mkB 58) = true
      · rw [if_pos h1]
        have h2 := alt_clo h F (stepS (giveS s u))
        cases ha : altF toks en F (stepS (giveS s u)) with
        | error p => rw [ha] at h2; exact h2
        | ok r =>
          obtain ⟨n, s2⟩ := r
          rw [ha] at h2
          simp only
          have h3 := h.trans (h.trans (hg s u hn) (h.step _)) (h.trans h2 (hr s2 ⟨u.name, n⟩))
          by_cases h4 : isMark toks s2.pos (mkB 59) = true
          · rw [if_pos h4]
            by_cases h5 : s2.pos + 1 < toks.length
            · rw [if_pos h5]
              have h6 := ih (ruleS s2 ⟨u.name, n⟩)
              cases hT : textGo toks en (altF toks en F) f (ruleS s2 ⟨u.name, n⟩) with
              | error p => rw [hT] at h6; exact h6
              | ok s3 => rw [hT] at h6; exact h.trans h3 h6
            · rw [if_neg h5]; exact h3
          · rw [if_neg h4]; exact h.fail _
      · rw [if_neg h1]; exact h.fail _
end
/-! ### the tokens of a text -/
def spanOk (toks : List Tok) (n : Nat) : Prop := toks.length ≤ n ∧ ∀ t, t ∈ toks → (t.kind = 1 ∨ t.kind = 2 ∨ t.kind = 3) ∧ 0 ≤ t.pos ∧ t.pos < n ∧ t.text.size ≤ n
theorem firstL_kind (l : List UInt8) : (firstL l).1 = 0 ∨ (firstL l).1 = 1 ∨ (firstL l).1 = 2 ∨ (firstL l).1 = 3 := by
  cases l with
  | nil => left; rfl
  | cons c r =>
    simp only [firstL]
    repeat' split
    all_goals simp
theorem firstL_text (l : List UInt8) : (firstL l).2.1.length ≤ l.length := by
  cases l with
  | nil => simp [firstL]
  | cons c r =>
    simp only [firstL]
    repeat' split
    all_goals simp
    all_goals omega
theorem scanGo_ok : ∀ (f pos : Nat) (l : List UInt8) (acc : List Tok) (n : Nat), pos + l.length = n → acc.length ≤ pos → (∀ t, t ∈ acc → (t.kind = 1 ∨ t.kind = 2 ∨ t.kind = 3) ∧ 0 ≤ t.pos ∧ t.pos < n ∧ t.text.size ≤ n) →
    spanOk (scanGo f pos l acc).1 n ∧ 0 ≤ (scanGo f pos l acc).2.1 ∧ (scanGo f pos l acc).2.1 ≤ n := by
  intro f
  induction f with
  | zero => intro pos l acc n hn ha hk; exact ⟨⟨by simp only [scanGo]; omega, hk⟩, by simp [scanGo], by simp [scanGo]⟩
  | succ f ih =>
    intro pos l acc n hn ha hk
    rw [scanGo]
    split
    · exact ⟨⟨by simp only; omega, hk⟩, by simp, by simp⟩
    · rename_i hne
      split
      · exact ⟨⟨by simp, by simp⟩, by simp, by simp; omega⟩
      · rename_i h0
        have hle := firstL_le l
        have hpos : 0 < l.length := List.length_pos_iff.2 hne
        refine ih _ _ _ n (by rw [List.length_drop]; omega) ?_ ?_
        · split
          · simp; omega
          · omega
        · split
          · rename_i hp
            intro t ht
            rcases List.mem_append.1 ht with ht | ht
            · exact hk t ht
            · have ht := List.mem_singleton.1 ht
              subst ht
              have h1 := firstL_text l
              refine ⟨?_, by simp, by simp; omega, ?_⟩
              · have := firstL_kind l; simp only; omega
              · show (bs (firstL l).2.1).size ≤ n
                rw [bs_size]; omega
          · exact hk
theorem scanL_ok (l : List UInt8) : spanOk (scanL l).1 l.length ∧ 0 ≤ (scanL l).2.1 ∧ (scanL l).2.1 ≤ l.length ∧ (scanL l).1.length ≤ 4000 := by
  unfold scanL
  split
  · exact ⟨⟨by simp, by simp⟩, by simp, by simp, by simp⟩
  · have h := scanGo_ok (l.length + 1) 0 l [] l.length (by omega) (by simp) (by simp)
    exact ⟨h.1, h.2.1, h.2.2, by have := h.1.1; omega⟩
end Go.Proofs.Ytoiejgmfgcdniaa
