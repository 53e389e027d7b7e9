import Derived.Test.YtoiejgmfgcdniaaXLp4
set_option linter.unusedVariables false
set_option linter.unusedSimpArgs false
namespace Go.Proofs.Ytoiejgmfgcdniaa
open Go.RowKit Go.Proofs.YtoiejgmfgcdniaaW.PrintWords

/-! ### how the parser uses its tokens up; how much fuel it wants (plain) -/
def Shr (al : List TT → PS → LP) : Prop := ∀ l st n l1 st1, al l st = some (n, l1, st1) → l1.length ≤ l.length
theorem shr_altLF (f : Nat) : Shr (altLF f) := fun l st n l1 st1 h => (altLF_run (fun _ => True) f l st n l1 st1 (fun _ _ _ => trivial) h).suf.length_le
theorem isM_len {l : List TT} {m : ByteArray} (h : isM l m = true) : l.tail.length + 1 = l.length := by
  cases l with
  | nil => cases h
  | cons x r => rfl
theorem atom_lt {al : List TT → PS → LP} (hs : Shr al) {l l1 : List TT} {st st1 : PS} {n : Int} (h : atomL al l st = some (n, l1, st1)) : l1.length < l.length := by
  unfold atomL at h
  split at h
  · rename_i hm
    have := isM_len hm
    cases ha : al l.tail st with
    | none => rw [ha] at h; cases h
    | some r =>
      obtain ⟨k, l2, st2⟩ := r
      rw [ha] at h
      simp only at h
      have h1 := hs _ _ _ _ _ ha
      split at h
      · rename_i hm2
        have := isM_len hm2
        simp only [Option.some.injEq, Prod.mk.injEq] at h
        obtain ⟨_, rfl, _⟩ := h
        omega
      · cases h
  · cases l with
    | nil => cases h
    | cons x r =>
      simp only at h
      split at h
      · simp only [Option.some.injEq, Prod.mk.injEq] at h
        obtain ⟨_, rfl, _⟩ := h
        simp
      split at h
      · simp only [Option.some.injEq, Prod.mk.injEq] at h
        obtain ⟨_, rfl, _⟩ := h
        simp
      · cases h
theorem item_lt {al : List TT → PS → LP} (hs : Shr al) {l l1 : List TT} {st st1 : PS} {n : Int} (h : itemL al l st = some (n, l1, st1)) : l1.length < l.length := by
  unfold itemL at h
  cases ha : atomL al l st with
  | none => rw [ha] at h; cases h
  | some r =>
    obtain ⟨k, l2, st2⟩ := r
    rw [ha] at h
    simp only at h
    have h1 := atom_lt hs ha
    split at h
    · cases h; rw [List.length_tail]; omega
    split at h
    · cases h; rw [List.length_tail]; omega
    split at h
    · cases h; rw [List.length_tail]; omega
    · cases h; exact h1
theorem items_le {al : List TT → PS → LP} (hs : Shr al) : ∀ (f : Nat) (l l1 : List TT) (st st1 : PS) (acc m : List Int), itemsL al f l st acc = some (m, l1, st1) → l1.length ≤ l.length := by
  intro f
  induction f with
  | zero => intro l l1 st st1 acc m h; rw [itemsL] at h; cases h; exact Nat.le_refl _
  | succ f ih =>
    intro l l1 st st1 acc m h
    rw [itemsL] at h
    split at h
    · cases hi : itemL al l st with
      | none => rw [hi] at h; cases h
      | some r =>
        obtain ⟨n, l2, st2⟩ := r
        rw [hi] at h
        have := item_lt hs hi
        have := ih _ _ _ _ _ _ h
        omega
    · cases h; exact Nat.le_refl _
/-- More fuel, and a parser inside that knows more: the same answers, where there are some. -/
def Leq (al al' : List TT → PS → LP) : Prop := ∀ l st r, al l st = some r → al' l st = some r
section
variable {al al' : List TT → PS → LP}
theorem atom_leq (h : Leq al al') {l : List TT} {st : PS} {r : Int × List TT × PS} (e : atomL al l st = some r) : atomL al' l st = some r := by
  unfold atomL at e ⊢
  split at e
  · rename_i hm
    rw [if_pos hm]
    cases ha : al l.tail st with
    | none => rw [ha] at e; cases e
    | some q => rw [ha] at e; rw [h _ _ _ ha]; exact e
  · rename_i hm
    rw [if_neg hm]; exact e
theorem item_leq (h : Leq al al') {l : List TT} {st : PS} {r : Int × List TT × PS} (e : itemL al l st = some r) : itemL al' l st = some r := by
  unfold itemL at e ⊢
  cases ha : atomL al l st with
  | none => rw [ha] at e; cases e
  | some q => rw [ha] at e; rw [atom_leq h ha]; exact e
theorem items_leq (h : Leq al al') : ∀ (f : Nat) (l : List TT) (st : PS) (acc : List Int) (r : List Int × List TT × PS), itemsL al f l st acc = some r → itemsL al' f l st acc = some r := by
  intro f
  induction f with
  | zero => intro l st acc r e; exact e
  | succ f ih =>
    intro l st acc r e
    rw [itemsL] at e ⊢
    split at e
    · rename_i hb
      rw [if_pos hb]
      cases hi : itemL al l st with
      | none => rw [hi] at e; cases e
      | some q =>
        obtain ⟨n, l1, st1⟩ := q
        rw [hi] at e
        rw [item_leq h hi]
        exact ih _ _ _ _ e
    · rename_i hb
      rw [if_neg hb]; exact e
theorem alts_leq (h : Leq al al') : ∀ (f : Nat) (l : List TT) (st : PS) (acc : List Int) (r : List Int × List TT × PS), altsL al f l st acc = some r → altsL al' f l st acc = some r := by
  intro f
  induction f with
  | zero => intro l st acc r e; exact e
  | succ f ih =>
    intro l st acc r e
    rw [altsL] at e ⊢
    cases hi : itemsL al (l.length + 1) l st [] with
    | none => rw [hi] at e; cases e
    | some q =>
      obtain ⟨k, l1, st1⟩ := q
      rw [hi] at e
      rw [items_leq h _ _ _ _ _ hi]
      simp only at e ⊢
      split at e
      · rename_i hm
        rw [if_pos hm]; exact ih _ _ _ _ e
      · rename_i hm
        rw [if_neg hm]; exact e
theorem altL_leq (h : Leq al al') : Leq (altL al) (altL al') := by
  intro l st r e
  unfold altL at e ⊢
  cases hi : altsL al (l.length + 1) l st [] with
  | none => rw [hi] at e; cases e
  | some q => rw [hi] at e; rw [alts_leq h _ _ _ _ _ hi]; exact e
end
theorem altLF_succ : ∀ f, Leq (altLF f) (altLF (f + 1)) := by
  intro f
  induction f with
  | zero => intro l st r e; cases e
  | succ f ih => exact altL_leq ih
theorem altLF_leq {f g : Nat} (h : f ≤ g) : Leq (altLF f) (altLF g) := by
  induction g with
  | zero => intro l st r e; rwa [show f = 0 by omega] at e
  | succ g ih =>
    by_cases hfg : f ≤ g
    · exact fun l st r e => altLF_succ g _ _ _ (ih hfg _ _ _ e)
    · rw [show f = g + 1 by omega]; exact fun _ _ _ e => e
/-- Past the tokens left, the fuel of a row of items is nothing. -/
theorem items_fuel {al : List TT → PS → LP} (hs : Shr al) : ∀ (f g : Nat) (l : List TT) (st : PS) (acc : List Int), l.length < f → l.length < g → itemsL al f l st acc = itemsL al g l st acc := by
  intro f
  induction f with
  | zero => intro g l st acc hf; omega
  | succ f ih =>
    intro g l st acc hf hg
    obtain ⟨g, rfl⟩ : ∃ k, g = k + 1 := ⟨g - 1, by omega⟩
    rw [itemsL, itemsL]
    cases begL l with
    | false => rfl
    | true =>
      simp only [if_true]
      cases hi : itemL al l st with
      | none => rfl
      | some q =>
        obtain ⟨n, l1, st1⟩ := q
        have := item_lt hs hi
        exact ih g _ _ _ (by omega) (by omega)
theorem alts_fuel {al : List TT → PS → LP} (hs : Shr al) : ∀ (f g : Nat) (l : List TT) (st : PS) (acc : List Int), l.length < f → l.length < g → altsL al f l st acc = altsL al g l st acc := by
  intro f
  induction f with
  | zero => intro g l st acc hf; omega
  | succ f ih =>
    intro g l st acc hf hg
    obtain ⟨g, rfl⟩ : ∃ k, g = k + 1 := ⟨g - 1, by omega⟩
    rw [altsL, altsL]
    cases hi : itemsL al (l.length + 1) l st [] with
    | none => rfl
    | some q =>
      obtain ⟨k, l1, st1⟩ := q
      have h1 := items_le hs _ _ _ _ _ _ _ hi
      simp only
      cases hm : isM l1 (mkB 124) with
      | false => rfl
      | true =>
        have := isM_len hm
        simp only [if_true]
        exact ih g _ _ _ (by omega) (by omega)
/-! ### reading a text whose tokens are known -/
theorem twice_congr : ∀ (gs gs' : List Use) (seen : List ByteArray), gs.map Use.name = gs'.map Use.name → twiceGo seen gs = none → twiceGo seen gs' = none := by
  intro gs
  induction gs with
  | nil => intro gs' seen h e; cases gs' with | nil => rfl | cons a b => simp at h
  | cons g gs ih =>
    intro gs' seen h e
    cases gs' with
    | nil => simp at h
    | cons g' gs' =>
      simp only [List.map_cons, List.cons.injEq] at h
      rw [twiceGo] at e ⊢
      rw [← h.1]
      cases hi : inB g.name seen
      · rw [hi] at e
        simp only [Bool.false_eq_true, if_false] at e ⊢
        exact ih _ _ h.2 e
      · rw [hi] at e; simp at e
theorem lack_congr : ∀ (us us' : List Use) (known : List ByteArray), us.map Use.name = us'.map Use.name → lackGo known us = none → lackGo known us' = none := by
  intro us
  induction us with
  | nil => intro us' known h e; cases us' with | nil => rfl | cons a b => simp at h
  | cons g us ih =>
    intro us' known h e
    cases us' with
    | nil => simp at h
    | cons g' us' =>
      simp only [List.map_cons, List.cons.injEq] at h
      rw [lackGo] at e ⊢
      rw [← h.1]
      cases hi : inB g.name known
      · rw [hi] at e; simp at e
      · rw [hi] at e
        simp only [if_true] at e ⊢
        exact ih _ _ h.2 e
/-- Names that are given, as a list: none is twice. -/
def twiceN (names : List ByteArray) : Prop := ∀ gs : List Use, gs.map Use.name = names → twiceGo [] gs = none
def lackN (known names : List ByteArray) : Prop := ∀ us : List Use, us.map Use.name = names → lackGo known us = none
theorem readP_of {l : List UInt8} {ts : List TT} {rs : List Rule} {st : PS} (hl : l.length ≤ 4000) (hL : Lex l ts) (ht : textL (ts.length + 1) (ts.length + 1) ts ⟨[], []⟩ [] = some (rs, st)) (hr : rs.length ≤ 24) (hn : st.nodes.length ≤ 200)
    (h2 : twiceN (rs.map Rule.name)) (h3 : lackN (rs.map Rule.name) st.used) : readP l = (⟨rs, st.nodes⟩, 0, 0) := by
  obtain ⟨e1, e2, e3⟩ := lex_scanL hL hl
  have hr0 : readP l = readQ l.length (scanL l) := rfl
  generalize scanL l = R at e1 e2 e3 hr0
  obtain ⟨toks, a, e⟩ := R
  simp only at e1 e2 e3
  subst e1 e3
  have hlen : toks.length = ts.length := by rw [← e2, List.length_map]
  have h1 := textL_of toks l.length (toks.length + 1) (toks.length + 1) rd0 (Nat.zero_le _)
  have er : rest toks rd0 = ts := by unfold rest rd0; rw [List.drop_zero]; exact e2
  rw [er] at h1
  have h1' : prT (parseP toks l.length) = textL (toks.length + 1) (toks.length + 1) ts ⟨[], []⟩ [] := h1
  rw [hlen, ht] at h1'
  cases hp : parseP toks l.length with
  | error p => rw [hp] at h1'; cases h1'
  | ok s =>
    rw [hp] at h1'
    simp only [prT, Option.some.injEq, Prod.mk.injEq] at h1'
    obtain ⟨rfl, rfl⟩ := h1'
    have hg := textGo_given _ _ _ _ _ _ hp rfl
    rw [hr0]
    simp only [readQ, if_true, hp]
    unfold readT
    have hn : s.nodes.length ≤ 200 := hn
    rw [if_neg (by omega)]
    have hnm : (namesP s.given s.used) = (0, 0) := by
      unfold namesP
      rw [h2 _ hg]
      simp only
      unfold lackP
      rw [hg, h3 _ rfl]
    rw [hnm]
    rfl
theorem ReadOk.namesN {l : List UInt8} {toks : List Tok} {s : RdS} (h : ReadOk l toks s) : twiceN (s.rules.map Rule.name) ∧ lackN (s.rules.map Rule.name) (psOf s).used := by
  have hg := h.text.2
  refine ⟨fun gs hgs => twice_congr _ _ _ (hg.trans hgs.symm) h.twice, fun us hus => ?_⟩
  have := h.lack
  rw [hg] at this
  exact lack_congr _ _ _ hus.symm this
end Go.Proofs.Ytoiejgmfgcdniaa
