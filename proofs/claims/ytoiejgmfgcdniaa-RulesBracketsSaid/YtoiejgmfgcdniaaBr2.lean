import Derived.Test.YtoiejgmfgcdniaaBr1
set_option linter.unusedVariables false
set_option linter.unusedSimpArgs false
namespace Go.Proofs.Ytoiejgmfgcdniaa
open Go.RowKit Go.Proofs.YtoiejgmfgcdniaaW.PrintWords

/-! ### brackets around all that a rule stands for, and around each word (plain) -/
theorem Wt_nil {b : Bool} {l : List TT} : (Wt b l).isEmpty = l.isEmpty := by
  cases l with
  | nil => rfl
  | cons x r =>
    rw [Wt]
    split
    · rfl
    split
    · rfl
    split
    · rfl
    · rfl
theorem text_sim (F F' : Nat) (hF : F + 2 ≤ F') : ∀ (f f' : Nat) (l : List TT) (st st1 : PS) (rs0 rs : List Rule), l.length < f → (Wt false l).length < f' → textL F f l st rs0 = some (rs, st1) → textL F' f' (Wt false l) st rs0 = some (rs, st1) := by
  intro f
  induction f with
  | zero => intro f' l st st1 rs0 rs hf; omega
  | succ f ih =>
    intro f' l st st1 rs0 rs hf hf' e
    obtain ⟨f', rfl⟩ : ∃ k, f' = k + 1 := ⟨f' - 1, by omega⟩
    cases l with
    | nil => cases e
    | cons x r =>
      rw [textL] at e
      by_cases h1 : x.1 = 1
      · rw [if_pos h1] at e
        cases hm : isM r (mkB 58) with
        | false => rw [hm] at e; simp at e
        | true =>
          obtain ⟨r1, rfl⟩ := isM_some hm
          rw [hm] at e
          simp only [if_true, List.tail_cons] at e
          cases ha : altLF F r1 st with
          | none => rw [ha] at e; cases e
          | some q =>
            obtain ⟨n, l1, st2⟩ := q
            rw [ha] at e
            simp only at e
            cases hm2 : isM l1 (mkB 59) with
            | false => rw [hm2] at e; simp at e
            | true =>
              obtain ⟨r2, rfl⟩ := isM_some hm2
              rw [hm2] at e
              simp only [if_true, List.tail_cons] at e
              have hW : Wt false (x :: (3, mkB 58) :: r1) = x :: (3, mkB 58) :: (3, mkB 40) :: Wt true r1 := by
                rw [Wt, if_neg (fun h => by omega), if_neg (fun h => by omega), if_neg (fun h => by simp at h), Wt, if_pos ⟨rfl, rfl⟩]
              have hW2 : Wt true ((3, mkB 59) :: r2) = (3, mkB 41) :: (3, mkB 59) :: Wt false r2 := by
                rw [Wt, if_neg (fun h => by have := mkB_inj h.2; revert this; decide), if_pos ⟨rfl, rfl⟩]
              obtain ⟨G, rfl⟩ : ∃ G, F' = G + 1 := ⟨F' - 1, by omega⟩
              have hs1 := altLF_leq (show F + 1 ≤ G by omega) _ _ _ (altLF_sim F _ _ _ _ _ ha)
              rw [hW2] at hs1
              obtain ⟨c1, c2, c3, c4, c5, c6⟩ := semi_no (Wt false r2)
              have hs2 : altLF (G + 1) ((3, mkB 40) :: Wt true r1) st = some (n, (3, mkB 59) :: Wt false r2, st2) := alt_single (open_is _).2 (item_plain (atom_brackets hs1) c3 c4 c5) c1 c2
              have hlen := shr_altLF F _ _ _ _ _ ha
              have hlen2 := shr_altLF (G + 1) _ _ _ _ _ hs2
              rw [hW] at hf' ⊢
              rw [textL, if_pos h1]
              rw [if_pos (by rw [isM_cons]; simp)]
              simp only [List.tail_cons]
              rw [hs2]
              simp only [c6, if_true, List.tail_cons]
              simp only [List.length_cons] at hf hf' hlen hlen2
              show (if (Wt false r2).isEmpty = true then _ else _) = _
              have e' : (if r2.isEmpty = true then some (rs0 ++ [{ name := x.2, body := n }], st2) else textL F f r2 st2 (rs0 ++ [{ name := x.2, body := n }])) = some (rs, st1) := e
              have hWn := Wt_nil (b := false) (l := r2)
              by_cases hE : r2.isEmpty = true
              · rw [if_pos hE] at e'
                rw [if_pos (hWn.trans hE)]
                exact e'
              · rw [if_neg hE] at e'
                rw [if_neg (by rw [hWn]; exact hE)]
                exact ih f' _ _ _ _ _ (by omega) (by omega) e'
      · rw [if_neg h1] at e; cases e
theorem Wt_len : ∀ (l : List TT) (b : Bool), l.length ≤ (Wt b l).length := by
  intro l
  induction l with
  | nil => intro b; exact Nat.le_refl _
  | cons x r ih =>
    intro b
    rw [Wt]
    split
    · have := ih true; simp only [List.length_cons]; omega
    split
    · have := ih false; simp only [List.length_cons]; omega
    split
    · have := ih b; simp only [List.length_cons]; omega
    · have := ih b; simp only [List.length_cons]; omega
theorem Wt_semi : ∀ (l : List TT) (b : Bool), (3, mkB 59) ∈ l → l.length + 1 ≤ (Wt b l).length := by
  intro l
  induction l with
  | nil => intro b h; cases h
  | cons x r ih =>
    intro b h
    rw [Wt]
    split
    · have := Wt_len r true; simp only [List.length_cons]; omega
    split
    · have := Wt_len r false; simp only [List.length_cons]; omega
    · rename_i h1 h2
      have hr : (3, mkB 59) ∈ r := by
        rcases List.mem_cons.1 h with e | h
        · exact absurd (by rw [← e]; exact ⟨rfl, rfl⟩) h2
        · exact h
      have := ih b hr
      split <;> (simp only [List.length_cons]; omega)
theorem text_semi {F f : Nat} {l : List TT} {st st1 : PS} {rs0 rs : List Rule} (e : textL F (f + 1) l st rs0 = some (rs, st1)) : l.length + 2 ≤ (Wt false l).length := by
  cases l with
  | nil => cases e
  | cons x r =>
    rw [textL] at e
    by_cases h1 : x.1 = 1
    · rw [if_pos h1] at e
      cases hm : isM r (mkB 58) with
      | false => rw [hm] at e; simp at e
      | true =>
        obtain ⟨r1, rfl⟩ := isM_some hm
        rw [hm] at e
        simp only [if_true, List.tail_cons] at e
        cases ha : altLF F r1 st with
        | none => rw [ha] at e; cases e
        | some q =>
          obtain ⟨n, l1, st2⟩ := q
          rw [ha] at e
          simp only at e
          cases hm2 : isM l1 (mkB 59) with
          | false => rw [hm2] at e; simp at e
          | true =>
            obtain ⟨r2, rfl⟩ := isM_some hm2
            have hsuf := (altLF_run (fun _ => True) F _ _ _ _ _ (fun _ _ _ => trivial) ha).suf
            have h2 := Wt_semi r1 true (hsuf.subset (by simp))
            rw [Wt, if_neg (fun h => by omega), if_neg (fun h => by omega), if_neg (fun h => by simp at h), Wt, if_pos ⟨rfl, rfl⟩]
            simp only [List.length_cons]
            omega
    · rw [if_neg h1] at e; cases e
/-! ### the bytes -/
def pieceT (x : TT) : List UInt8 := if x.1 = 2 then 39 :: (x.2.data.toList ++ [39]) else x.2.data.toList
def pieceB (b : Bool) (x : TT) : List UInt8 × Bool :=
  if x.1 = 3 ∧ x.2 = mkB 58 then ([58, 32, 40], true) else if x.1 = 3 ∧ x.2 = mkB 59 then ([41, 32, 59], false) else if x.1 ≠ 3 ∧ b = true then (40 :: (pieceT x ++ [41]), b) else (pieceT x, b)
def brL : Bool → List TT → List UInt8
  | _, [] => []
  | b, x :: l => (pieceB b x).1 ++ 32 :: brL (pieceB b x).2 l
theorem lex_mark' (c : UInt8) (hc : c ∈ marksL) {r : List UInt8} {ts : List TT} (h : Lex r ts) : Lex (c :: r) ((3, mkB c) :: ts) := lex_mark hc h
/-- A token's own bytes, ahead of what is no part of a word. -/
theorem lex_piece {x : TT} (hx : TokOkT x) {r : List UInt8} {ts : List TT} (hr : ∀ c, r.head? = some c → partI c.toNat = false) (h : Lex r ts) : Lex (pieceT x ++ r) (x :: ts) := by
  obtain ⟨k, t⟩ := x
  rcases hx with ⟨h1, h2⟩ | ⟨h1, h2⟩ | ⟨h1, c, hc, h2⟩
  · have h1 : k = 1 := h1
    subst h1
    have := lex_name h2 hr h
    rwa [bs_of] at this
  · have h1 : k = 2 := h1
    subst h1
    have := lex_quote h2 h
    rw [bs_of] at this
    show Lex ((39 :: (t.data.toList ++ [39])) ++ r) _
    simpa using this
  · have h1 : k = 3 := h1
    have h2 : t = mkB c := h2
    subst h1 h2
    exact lex_mark hc h
theorem lex_br : ∀ (l : List TT) (b : Bool), (∀ t, t ∈ l → TokOkT t) → Lex (brL b l) (Wt b l) := by
  intro l
  induction l with
  | nil => intro b _; exact .nil
  | cons x l ih =>
    intro b h
    have ih' := fun b => ih b (fun t ht => h t (by simp [ht]))
    have hx := h x (by simp)
    rw [brL, Wt]
    unfold pieceB
    split
    · exact lex_mark (by decide) (lex_blank (by decide) (lex_mark (by decide) (lex_blank (by decide) (ih' true))))
    split
    · exact lex_mark (by decide) (lex_blank (by decide) (lex_mark (by decide) (lex_blank (by decide) (ih' false))))
    split
    · have h2 : Lex (41 :: 32 :: brL b l) ((3, mkB 41) :: Wt b l) := lex_mark (by decide) (lex_blank (by decide) (ih' b))
      have h3 := lex_piece hx (r := 41 :: 32 :: brL b l) (fun c hc => by simp at hc; subst hc; decide) h2
      have h4 := lex_mark (c := 40) (by decide) h3
      simpa using h4
    · exact lex_piece hx (fun c hc => by simp at hc; subst hc; decide) (lex_blank (by decide) (ih' b))
theorem firstL_piece (l : List UInt8) (hk : 0 < (firstL l).1) : (pieceT ((firstL l).1, bs (firstL l).2.1)).length ≤ (firstL l).2.2 := by
  cases l with
  | nil => simp [firstL] at hk
  | cons c r =>
    simp only [firstL] at hk ⊢
    by_cases h1 : c = 35
    · simp [h1] at hk
    · simp only [if_neg h1] at hk ⊢
      by_cases h2 : c = 13 ∨ c = 32 ∨ c = 9 ∨ c = 10
      · simp [h2] at hk
      · simp only [if_neg h2] at hk ⊢
        by_cases h3 : letterI c.toNat = true
        · simp only [if_pos h3] at hk ⊢
          show ((c :: r).take (runL partI (c :: r))).length ≤ _
          rw [List.length_take]; omega
        · simp only [if_neg h3] at hk ⊢
          by_cases h4 : c = 39
          · simp only [if_pos h4] at hk ⊢
            by_cases h5 : runL quotedI r = 0 ∨ runL quotedI r = r.length ∨ r[runL quotedI r]? ≠ some 39
            · rw [if_pos h5] at hk; simp at hk
            · simp only [if_neg h5] at hk ⊢
              show (39 :: (r.take (runL quotedI r) ++ [39])).length ≤ _
              simp only [List.length_cons, List.length_append, List.length_take, List.length_nil]
              omega
          · simp only [if_neg h4] at hk ⊢
            by_cases h5 : c ∈ marksL
            · simp only [if_pos h5]
              show [c].length ≤ 1
              simp
            · simp [h5] at hk
theorem pieceB_len (b : Bool) (x : TT) (h : 0 < (pieceT x).length) : (pieceB b x).1.length ≤ (pieceT x).length + 2 := by
  unfold pieceB
  split
  · simp only [List.length_cons, List.length_nil]; omega
  split
  · simp only [List.length_cons, List.length_nil]; omega
  split
  · simp
  · simp
theorem piece_pos {x : TT} (h : TokOkT x) : 0 < (pieceT x).length := by
  obtain ⟨k, t⟩ := x
  rcases h with ⟨h1, h2⟩ | ⟨h1, h2⟩ | ⟨h1, c, hc, h2⟩
  · have h1 : k = 1 := h1
    subst h1
    obtain ⟨c, q, hc, _⟩ := h2
    unfold pieceT
    rw [if_neg (show ¬ (1 : Int) = 2 by decide)]
    show 0 < t.data.toList.length
    have hc : t.data.toList = c :: q := hc
    rw [hc]; simp
  · have h1 : k = 2 := h1
    subst h1
    unfold pieceT
    rw [if_pos rfl]; simp
  · have h1 : k = 3 := h1
    have h2 : t = mkB c := h2
    subst h1 h2
    exact Nat.one_pos
theorem br_len {l : List UInt8} {ts : List TT} (h : Lex l ts) : ∀ b, (brL b ts).length ≤ 4 * l.length := by
  induction h with
  | nil => intro b; simp [brL]
  | @skip l ts t n _ _ _ ih => intro b; have := ih b; rw [List.length_drop] at this; omega
  | @tok l ts k t n hf hn hk hL ih =>
    intro b
    rw [brL]
    have h1 := ih (pieceB b (k, bs t)).2
    have h2 := firstL_piece l (by rw [hf]; exact hk)
    have h3 := firstL_le l
    have h4 := firstL_tok l (by rw [hf]; exact hk)
    rw [hf] at h2 h3 h4
    have h5 := piece_pos h4
    have h6 := pieceB_len b (k, bs t) h5
    rw [List.length_drop] at h1
    simp only [List.length_append, List.length_cons]
    simp only at h2 h3
    omega
theorem brackets_read {l : List UInt8} {toks : List Tok} {s : RdS} (h : ReadOk l toks s) (hl : l.length ≤ 400) : readP (brL false (toks.map tt)) = (⟨s.rules, s.nodes⟩, 0, 0) := by
  have hb := br_len h.lex false
  have ht := h.text.1
  have hn := h.namesN
  have hlen : (toks.map tt).length = toks.length := List.length_map _
  have hs := text_semi ht
  refine readP_of (st := psOf s) (by omega) (lex_br _ _ h.lex.ok) ?_ h.rules h.nodes hn.1 hn.2
  exact text_sim _ _ (by omega) _ _ _ _ _ _ _ (by omega) (by omega) ht
end Go.Proofs.Ytoiejgmfgcdniaa
