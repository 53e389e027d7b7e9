import Derived.Test.YtoiejgmfgcdniaaXLp2
import Derived.Test.YtoiejgmfgcdniaaXRules2
set_option linter.unusedVariables false
set_option linter.unusedSimpArgs false
namespace Go.Proofs.Ytoiejgmfgcdniaa
open Go.RowKit Go.Proofs.YtoiejgmfgcdniaaW.PrintWords

/-! ### tokens of a text, without their places (plain) -/
def NameL (l : List UInt8) : Prop := ∃ c r, l = c :: r ∧ letterI c.toNat = true ∧ ∀ b, b ∈ r → partI b.toNat = true
def QuoteL (l : List UInt8) : Prop := l ≠ [] ∧ ∀ b, b ∈ l → quotedI b.toNat = true
def TokOkT (t : TT) : Prop := (t.1 = 1 ∧ NameL t.2.data.toList) ∨ (t.1 = 2 ∧ QuoteL t.2.data.toList) ∨ (t.1 = 3 ∧ ∃ c, c ∈ marksL ∧ t.2 = mkB c)
inductive Lex : List UInt8 → List TT → Prop
  | nil : Lex [] []
  | skip {l : List UInt8} {ts : List TT} {t : List UInt8} {n : Nat} : firstL l = (0, t, n) → 0 < n → Lex (l.drop n) ts → Lex l ts
  | tok {l : List UInt8} {ts : List TT} {k : Int} {t : List UInt8} {n : Nat} : firstL l = (k, t, n) → 0 < n → 0 < k → Lex (l.drop n) ts → Lex l ((k, bs t) :: ts)
theorem take_takeWhile {p : UInt8 → Bool} : ∀ (l : List UInt8), l.take (l.takeWhile p).length = l.takeWhile p := by
  intro l
  induction l with
  | nil => rfl
  | cons c r ih =>
    rw [List.takeWhile_cons]
    split
    · rw [List.length_cons, List.take_succ_cons, ih]
    · rfl
theorem take_runL (p : Int → Bool) (l : List UInt8) : l.take (runL p l) = l.takeWhile (fun b => p b.toNat) := take_takeWhile l
theorem mem_takeWhile {p : UInt8 → Bool} : ∀ {l : List UInt8} {b : UInt8}, b ∈ l.takeWhile p → p b = true := by
  intro l
  induction l with
  | nil => intro b hb; cases hb
  | cons c r ih =>
    intro b hb
    rw [List.takeWhile_cons] at hb
    split at hb
    · rename_i hc
      rcases List.mem_cons.1 hb with rfl | hb
      · exact hc
      · exact ih hb
    · cases hb
theorem letter_part {c : Int} (h : letterI c = true) : partI c = true := by unfold partI; rw [h]; rfl
theorem firstL_tok (l : List UInt8) (h : 0 < (firstL l).1) : TokOkT ((firstL l).1, bs (firstL l).2.1) := by
  cases l with
  | nil => simp [firstL] at h
  | cons c r =>
    simp only [firstL] at h ⊢
    by_cases h1 : c = 35
    · simp [h1] at h
    · simp only [if_neg h1] at h ⊢
      by_cases h2 : c = 13 ∨ c = 32 ∨ c = 9 ∨ c = 10
      · simp [h2] at h
      · simp only [if_neg h2] at h ⊢
        by_cases h3 : letterI c.toNat = true
        · simp only [if_pos h3] at h ⊢
          refine .inl ⟨rfl, c, r.takeWhile (fun b => partI b.toNat), ?_, h3, fun b hb => mem_takeWhile hb⟩
          show (c :: r).take (runL partI (c :: r)) = _
          rw [take_runL, List.takeWhile_cons, if_pos (letter_part h3)]
        · simp only [if_neg h3] at h ⊢
          by_cases h4 : c = 39
          · simp only [if_pos h4] at h ⊢
            by_cases h5 : runL quotedI r = 0 ∨ runL quotedI r = r.length ∨ r[runL quotedI r]? ≠ some 39
            · rw [if_pos h5] at h; simp at h
            · simp only [if_neg h5] at h ⊢
              refine .inr (.inl ⟨rfl, ?_, fun b hb => ?_⟩)
              · show r.take (runL quotedI r) ≠ []
                rw [take_runL]
                intro e
                exact h5 (.inl (by unfold runL; rw [e]; rfl))
              · have hb : b ∈ r.take (runL quotedI r) := hb
                rw [take_runL] at hb
                exact mem_takeWhile hb
          · simp only [if_neg h4] at h ⊢
            by_cases h5 : c ∈ marksL
            · simp only [if_pos h5]
              exact .inr (.inr ⟨rfl, c, h5, rfl⟩)
            · simp [h5] at h
/-! ### Lex and the scanner -/
theorem scanGo_lex : ∀ (f pos : Nat) (l : List UInt8) (acc : List Tok), l.length < f → (scanGo f pos l acc).2.2 = 0 → ∃ ts, Lex l ts ∧ (scanGo f pos l acc).1.map tt = acc.map tt ++ ts ∧ (scanGo f pos l acc).2.1 = 0 := by
  intro f
  induction f with
  | zero => intro pos l acc hl; omega
  | succ f ih =>
    intro pos l acc hl h
    rw [scanGo] at h ⊢
    split at h
    · rename_i h0
      rw [if_pos h0]
      subst h0
      exact ⟨[], .nil, by simp, rfl⟩
    · rename_i h0
      rw [if_neg h0]
      split at h
      · cases h
      · rename_i h1
        rw [if_neg h1]
        have hp : 0 < l.length := List.length_pos_iff.2 h0
        obtain ⟨ts, hL, e, e2⟩ := ih _ _ _ (by rw [List.length_drop]; omega) h
        by_cases hk : 0 < (firstL l).1
        · rw [if_pos hk] at e e2 ⊢
          exact ⟨_ :: ts, .tok (k := (firstL l).1) (t := (firstL l).2.1) (n := (firstL l).2.2) rfl (by omega) hk hL, by rw [e]; simp [tt], e2⟩
        · rw [if_neg hk] at e e2 ⊢
          have hk0 : (firstL l).1 = 0 := by have := firstL_kind l; omega
          exact ⟨ts, .skip (t := (firstL l).2.1) (n := (firstL l).2.2) (by rw [← hk0]) (by omega) hL, e, e2⟩
theorem lex_scanGo {l : List UInt8} {ts : List TT} (h : Lex l ts) : ∀ (f pos : Nat) (acc : List Tok), l.length < f → (scanGo f pos l acc).2.2 = 0 ∧ (scanGo f pos l acc).1.map tt = acc.map tt ++ ts ∧ (scanGo f pos l acc).2.1 = 0 := by
  induction h with
  | nil => intro f pos acc hl; obtain ⟨f, rfl⟩ : ∃ m, f = m + 1 := ⟨f - 1, by omega⟩; rw [scanGo, if_pos rfl]; simp
  | @skip l ts t n hf hn hL ih =>
    intro f pos acc hl
    obtain ⟨f, rfl⟩ : ∃ m, f = m + 1 := ⟨f - 1, by omega⟩
    have h0 : l ≠ [] := fun e => by subst e; simp [firstL] at hf; omega
    have hp : 0 < l.length := List.length_pos_iff.2 h0
    rw [scanGo, if_neg h0, hf]
    simp only
    rw [if_neg (by omega), if_neg (by omega)]
    exact ih f _ acc (by rw [List.length_drop]; omega)
  | @tok l ts k t n hf hn hk hL ih =>
    intro f pos acc hl
    obtain ⟨f, rfl⟩ : ∃ m, f = m + 1 := ⟨f - 1, by omega⟩
    have h0 : l ≠ [] := fun e => by subst e; simp [firstL] at hf; omega
    have hp : 0 < l.length := List.length_pos_iff.2 h0
    rw [scanGo, if_neg h0, hf]
    simp only
    rw [if_neg (by omega), if_pos hk]
    obtain ⟨e1, e2, e3⟩ := ih f (pos + n) (acc ++ [⟨k, bs t, pos⟩]) (by rw [List.length_drop]; omega)
    exact ⟨e1, by rw [e2]; simp [tt], e3⟩
theorem scanL_lex {l : List UInt8} (h : (scanL l).2.2 = 0) : l.length ≤ 4000 ∧ Lex l ((scanL l).1.map tt) ∧ (scanL l).2.1 = 0 := by
  unfold scanL at h ⊢
  split at h
  · cases h
  · rename_i h1
    rw [if_neg h1]
    obtain ⟨ts, e1, e2, e3⟩ := scanGo_lex _ _ _ _ (by omega) h
    rw [e2]
    exact ⟨by omega, by simpa using e1, e3⟩
theorem lex_scanL {l : List UInt8} {ts : List TT} (h : Lex l ts) (hl : l.length ≤ 4000) : (scanL l).2.2 = 0 ∧ (scanL l).1.map tt = ts ∧ (scanL l).2.1 = 0 := by
  unfold scanL
  rw [if_neg (by omega)]
  obtain ⟨e1, e2, e3⟩ := lex_scanGo h (l.length + 1) 0 [] (by omega)
  exact ⟨e1, by simpa using e2, e3⟩
theorem Lex.ok {l : List UInt8} {ts : List TT} (h : Lex l ts) : ∀ t, t ∈ ts → TokOkT t := by
  induction h with
  | nil => intro t ht; cases ht
  | skip _ _ _ ih => exact ih
  | @tok l ts k t n hf _ hk _ ih =>
    intro u hu
    rcases List.mem_cons.1 hu with rfl | hu
    · have := firstL_tok l (by rw [hf]; exact hk)
      rw [hf] at this
      exact this
    · exact ih u hu
/-! ### how texts are put together -/
theorem lex_blank {c : UInt8} {r : List UInt8} {ts : List TT} (hc : c = 13 ∨ c = 32 ∨ c = 9 ∨ c = 10) (h : Lex r ts) : Lex (c :: r) ts := by
  refine .skip (t := []) (n := 1) ?_ (by omega) (by simpa using h)
  simp only [firstL]
  rw [if_neg (by rcases hc with rfl | rfl | rfl | rfl <;> decide), if_pos hc]
theorem mark_not {c : UInt8} (h : c ∈ marksL) : c ≠ 35 ∧ ¬ (c = 13 ∨ c = 32 ∨ c = 9 ∨ c = 10) ∧ letterI c.toNat = false ∧ c ≠ 39 ∧ partI c.toNat = false := by
  simp only [marksL, List.mem_cons, List.not_mem_nil, or_false] at h
  rcases h with rfl | rfl | rfl | rfl | rfl | rfl | rfl | rfl <;> decide
theorem lex_mark {c : UInt8} {r : List UInt8} {ts : List TT} (hc : c ∈ marksL) (h : Lex r ts) : Lex (c :: r) ((3, mkB c) :: ts) := by
  obtain ⟨h1, h2, h3, h4, _⟩ := mark_not hc
  refine .tok (k := 3) (t := [c]) (n := 1) ?_ (by omega) (by omega) (by simpa using h)
  simp only [firstL]
  rw [if_neg h1, if_neg h2, if_neg (by rw [h3]; decide), if_neg h4, if_pos hc]
theorem takeWhile_stop {p : UInt8 → Bool} : ∀ (l r : List UInt8), (∀ b, b ∈ l → p b = true) → (∀ c, r.head? = some c → p c = false) → (l ++ r).takeWhile p = l := by
  intro l
  induction l with
  | nil =>
    intro r _ hr
    cases r with
    | nil => rfl
    | cons c r => rw [List.nil_append, List.takeWhile_cons, hr c rfl]; rfl
  | cons b l ih =>
    intro r hl hr
    rw [List.cons_append, List.takeWhile_cons, hl b (by simp), if_pos rfl, ih r (fun x hx => hl x (by simp [hx])) hr]
theorem runL_stop {p : Int → Bool} (l r : List UInt8) (hl : ∀ b, b ∈ l → p b.toNat = true) (hr : ∀ c, r.head? = some c → p c.toNat = false) : runL p (l ++ r) = l.length := by
  unfold runL; rw [takeWhile_stop l r hl hr]
theorem letter_not {c : UInt8} (h : letterI c.toNat = true) : c ≠ 35 ∧ ¬ (c = 13 ∨ c = 32 ∨ c = 9 ∨ c = 10) ∧ c ≠ 39 := by
  refine ⟨?_, ?_, ?_⟩
  · rintro rfl; revert h; decide
  · rintro (rfl | rfl | rfl | rfl) <;> (revert h; decide)
  · rintro rfl; revert h; decide
theorem lex_name {p r : List UInt8} {ts : List TT} (hp : NameL p) (hr : ∀ c, r.head? = some c → partI c.toNat = false) (h : Lex r ts) : Lex (p ++ r) ((1, bs p) :: ts) := by
  obtain ⟨c, q, rfl, hc, hq⟩ := hp
  obtain ⟨h1, h2, h4⟩ := letter_not hc
  have hall : ∀ b, b ∈ c :: q → partI b.toNat = true := fun b hb => by
    rcases List.mem_cons.1 hb with rfl | hb
    · exact letter_part hc
    · exact hq b hb
  have hrun := runL_stop (p := partI) (c :: q) r hall hr
  refine .tok (k := 1) (t := c :: q) (n := (c :: q).length) ?_ (by simp) (by omega) (by rw [List.drop_left]; exact h)
  rw [List.cons_append] at hrun ⊢
  simp only [firstL]
  rw [if_neg h1, if_neg h2, if_pos hc, hrun]
  rw [← List.cons_append, List.take_left]
theorem lex_quote {p r : List UInt8} {ts : List TT} (hp : QuoteL p) (h : Lex r ts) : Lex (39 :: (p ++ 39 :: r)) ((2, bs p) :: ts) := by
  obtain ⟨hp0, hq⟩ := hp
  have hrun := runL_stop (p := quotedI) p (39 :: r) hq (fun c hc => by simp at hc; subst hc; decide)
  have hl : 0 < p.length := List.length_pos_iff.2 hp0
  refine .tok (k := 2) (t := p) (n := p.length + 2) ?_ (by omega) (by omega) ?_
  · simp only [firstL]
    rw [if_neg (by decide), if_neg (by decide), if_neg (by decide), if_pos trivial, hrun, if_neg, List.take_left]
    simp only [List.length_append, List.length_cons, not_or]
    exact ⟨by omega, by omega, by simp⟩
  · rw [List.drop_succ_cons, List.drop_append, List.drop_eq_nil_of_le (by omega), List.nil_append, show p.length + 1 - p.length = 1 by omega]
    simpa using h
theorem scanL_one {l : List UInt8} {k : Int} {t : List UInt8} (hf : firstL l = (k, t, l.length)) (hk : 0 < k) (h0 : l ≠ []) (hl : l.length ≤ 4000) : scanL l = ([⟨k, bs t, 0⟩], 0, 0) := by
  have hp : 0 < l.length := List.length_pos_iff.2 h0
  obtain ⟨m, hm⟩ : ∃ m, l.length = m + 1 := ⟨l.length - 1, by omega⟩
  unfold scanL
  rw [if_neg (by omega), scanGo, if_neg h0, hf]
  simp only
  rw [if_neg (by omega), if_pos hk, List.drop_length, hm, scanGo, if_pos rfl]
  rfl
theorem first_of_name {l : List UInt8} (h : NameL l) : firstL l = (1, l, l.length) := by
  obtain ⟨c, q, rfl, hc, hq⟩ := h
  obtain ⟨h1, h2, h4⟩ := letter_not hc
  have hrun := runL_stop (p := partI) (c :: q) [] (fun b hb => by
    rcases List.mem_cons.1 hb with rfl | hb
    · exact letter_part hc
    · exact hq b hb) (by simp)
  rw [List.append_nil] at hrun
  simp only [firstL]
  rw [if_neg h1, if_neg h2, if_pos hc, hrun, List.take_length]
theorem first_of_quote {p : List UInt8} (h : QuoteL p) : firstL (39 :: (p ++ [39])) = (2, p, p.length + 2) := by
  obtain ⟨hp0, hq⟩ := h
  have hrun := runL_stop (p := quotedI) p [39] hq (fun c hc => by simp at hc; subst hc; decide)
  have hl : 0 < p.length := List.length_pos_iff.2 hp0
  simp only [firstL]
  rw [if_neg (by decide), if_neg (by decide), if_neg (by decide), if_pos trivial, hrun, if_neg, List.take_left]
  simp only [List.length_append, List.length_cons, not_or]
  exact ⟨by omega, by simp, by simp⟩
theorem name_ne {l : List UInt8} (h : NameL l) : l ≠ [] := by obtain ⟨c, q, rfl, _⟩ := h; simp
theorem token_name {s : ByteArray} (h : NameL s.data.toList) (hl : s.size ≤ 4000) : tokenB s 1 = true := by
  unfold tokenB
  rw [scanL_one (first_of_name h) (by decide) (name_ne h) (by rw [data_length]; exact hl)]
  simp [bs_of]
theorem name_of_token {s : ByteArray} (h : tokenB s 1 = true) : NameL s.data.toList ∧ s.size ≤ 4000 := by
  unfold tokenB at h
  generalize hR : scanL s.data.toList = R at h
  obtain ⟨ts, a, e⟩ := R
  match ts, h with
  | [t], h =>
    simp only [Bool.and_eq_true, beq_iff_eq, Bool.or_eq_true, decide_eq_true_eq] at h
    obtain ⟨rfl, h1, h2, h3⟩ := h
    have h3 : t.text = s := h3.resolve_left (by decide)
    obtain ⟨e1, e2, _⟩ := scanL_lex (l := s.data.toList) (by rw [hR])
    rw [hR] at e2
    rw [data_length] at e1
    have := e2.ok (tt t) (by simp)
    rcases this with ⟨_, h4⟩ | ⟨h4, _⟩ | ⟨h4, _⟩
    · exact ⟨by rw [← h3]; exact h4, e1⟩
    · simp only [tt] at h4; omega
    · simp only [tt] at h4; omega
theorem quote_no39 {l : List UInt8} (h : QuoteL l) : l.contains 39 = false := by
  rw [Bool.eq_false_iff]
  intro hc
  have := h.2 39 (by simpa using hc)
  revert this
  decide
theorem token_quote {s : ByteArray} (h : QuoteL s.data.toList) (hl : s.size + 2 ≤ 4000) : tokenB (bs (39 :: s.data.toList ++ [39])) 2 = true := by
  unfold tokenB
  rw [bs_data, List.cons_append, scanL_one (t := s.data.toList) (k := 2) (by rw [first_of_quote h]; simp) (by decide) (by simp) (by simp; omega)]
  simp
theorem quote_of_token {s : ByteArray} (h : tokenB (bs (39 :: s.data.toList ++ [39])) 2 = true) (h39 : s.data.toList.contains 39 = false) : QuoteL s.data.toList ∧ s.size + 2 ≤ 4000 := by
  unfold tokenB at h
  rw [bs_data, List.cons_append] at h
  generalize hp : s.data.toList = p at h h39
  have hps : s.size = p.length := by rw [← hp, data_length]
  generalize hR : scanL (39 :: (p ++ [39])) = R at h
  obtain ⟨ts, a, e⟩ := R
  match ts, h with
  | [t], h =>
    simp only [Bool.and_eq_true, beq_iff_eq, Bool.or_eq_true, decide_eq_true_eq] at h
    obtain ⟨rfl, h1, h2, _⟩ := h
    have hlen : (39 :: (p ++ [39]) : List UInt8).length ≤ 4000 := (scanL_lex (l := 39 :: (p ++ [39])) (by rw [hR])).1
    have hsc := hR
    unfold scanL at hsc
    rw [if_neg (by omega), scanGo, if_neg (by simp)] at hsc
    have hf : firstL (39 :: (p ++ [39])) = (if runL quotedI (p ++ [39]) = 0 ∨ runL quotedI (p ++ [39]) = (p ++ [39]).length ∨ (p ++ [39])[runL quotedI (p ++ [39])]? ≠ some 39 then (0, [], 0) else (2, (p ++ [39]).take (runL quotedI (p ++ [39])), runL quotedI (p ++ [39]) + 2)) := by
      simp only [firstL]
      rw [if_neg (by decide), if_neg (by decide), if_neg (by decide), if_pos trivial]
    by_cases hc : runL quotedI (p ++ [39]) = 0 ∨ runL quotedI (p ++ [39]) = (p ++ [39]).length ∨ (p ++ [39])[runL quotedI (p ++ [39])]? ≠ some 39
    · rw [if_pos hc] at hf
      rw [hf] at hsc
      simp at hsc
    · rw [not_or, not_or] at hc
      obtain ⟨c1, c2, c3⟩ := hc
      have c3 : (p ++ [39])[runL quotedI (p ++ [39])]? = some 39 := Classical.not_not.1 c3
      have hle := runL_le quotedI (p ++ [39])
      have hm : runL quotedI (p ++ [39]) = p.length := by
        rcases Nat.lt_or_ge (runL quotedI (p ++ [39])) p.length with hlt | hge
        · rw [List.getElem?_append_left hlt] at c3
          have := List.mem_of_getElem? c3
          rw [Bool.eq_false_iff] at h39
          exact absurd (by simpa using this) h39
        · rw [List.length_append, List.length_singleton] at hle c2; omega
      have htw := take_runL quotedI (p ++ [39])
      rw [hm, List.take_left] at htw
      refine ⟨⟨fun e => c1 (by rw [hm, e]; rfl), fun b hb => ?_⟩, by simp at hlen; omega⟩
      rw [htw] at hb
      exact mem_takeWhile hb
end Go.Proofs.Ytoiejgmfgcdniaa
