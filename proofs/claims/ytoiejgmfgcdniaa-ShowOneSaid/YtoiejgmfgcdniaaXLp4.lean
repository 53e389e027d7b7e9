import Derived.Test.YtoiejgmfgcdniaaXLp3
set_option linter.unusedVariables false
set_option linter.unusedSimpArgs false
namespace Go.Proofs.Ytoiejgmfgcdniaa
open Go.RowKit Go.Proofs.YtoiejgmfgcdniaaW.PrintWords

/-! ### what is read is right (plain) -/
theorem firstL_text1 (l : List UInt8) : (firstL l).1 = 2 → (firstL l).2.1.length + 2 ≤ l.length := by
  intro h
  have hle := firstL_le l
  cases l with
  | nil => simp [firstL] at h
  | cons c r =>
    simp only [firstL] at h hle ⊢
    by_cases h1 : c = 35
    · simp [h1] at h
    · simp only [if_neg h1] at h hle ⊢
      by_cases h2 : c = 13 ∨ c = 32 ∨ c = 9 ∨ c = 10
      · simp [h2] at h
      · simp only [if_neg h2] at h hle ⊢
        by_cases h3 : letterI c.toNat = true
        · simp [h3] at h
        · simp only [if_neg h3] at h hle ⊢
          by_cases h4 : c = 39
          · simp only [if_pos h4] at h hle ⊢
            by_cases h5 : runL quotedI r = 0 ∨ runL quotedI r = r.length ∨ r[runL quotedI r]? ≠ some 39
            · simp [h5] at h
            · simp only [if_neg h5] at h hle ⊢
              rw [List.length_take]
              simp only [List.length_cons] at hle ⊢
              omega
          · simp only [if_neg h4] at h
            split at h <;> simp at h
theorem Lex.len {l : List UInt8} {ts : List TT} (h : Lex l ts) : ∀ t, t ∈ ts → t.2.size ≤ l.length ∧ (t.1 = 2 → t.2.size + 2 ≤ l.length) := by
  induction h with
  | nil => intro t ht; cases ht
  | @skip l ts t n _ _ _ ih =>
    intro u hu
    have := ih u hu
    rw [List.length_drop] at this
    exact ⟨by omega, fun h2 => by have := this.2 h2; omega⟩
  | @tok l ts k t n hf _ hk _ ih =>
    intro u hu
    rcases List.mem_cons.1 hu with rfl | hu
    · have h1 := firstL_text l
      have h2 := firstL_text1 l
      rw [hf] at h1 h2
      exact ⟨by show (bs t).size ≤ _; rw [bs_size]; exact h1, fun h => by show (bs t).size + 2 ≤ _; rw [bs_size]; exact h2 h⟩
    · have := ih u hu
      rw [List.length_drop] at this
      exact ⟨by omega, fun h2 => by have := this.2 h2; omega⟩
structure ReadOk (l : List UInt8) (toks : List Tok) (s : RdS) : Prop where
  scan : scanL l = (toks, 0, 0)
  len : l.length ≤ 4000
  lex : Lex l (toks.map tt)
  parse : parseP toks l.length = .ok s
  rules : s.rules.length ≤ 24
  nodes : s.nodes.length ≤ 200
  twice : twiceGo [] s.given = none
  lack : lackGo (s.given.map Use.name) s.used = none
  res : readP l = (⟨s.rules, s.nodes⟩, 0, 0)
theorem namesP_zero {gs us : List Use} (h : (namesP gs us).2 = 0) : twiceGo [] gs = none ∧ lackGo (gs.map Use.name) us = none := by
  unfold namesP at h
  cases h1 : twiceGo [] gs with
  | some p => rw [h1] at h; simp at h
  | none =>
    rw [h1] at h
    refine ⟨rfl, ?_⟩
    unfold lackP at h
    cases h2 : lackGo (gs.map Use.name) us with
    | some p => rw [h2] at h; simp at h
    | none => rfl
theorem readP_ok {l : List UInt8} (h : (readP l).2.2 = 0) : ∃ toks s, ReadOk l toks s := by
  have hr : readP l = readQ l.length (scanL l) := rfl
  generalize hR : scanL l = R at hr
  obtain ⟨toks, a, e⟩ := R
  by_cases he : e = 0
  · subst he
    obtain ⟨h1, h2, h3⟩ := scanL_lex (l := l) (by rw [hR])
    rw [hR] at h2 h3
    simp only at h2 h3
    subst h3
    simp only [readQ, if_true] at hr
    cases hp : parseP toks l.length with
    | error p => rw [hp] at hr; rw [hr] at h; simp at h
    | ok s =>
      rw [hp] at hr
      simp only at hr
      have hq := hr
      unfold readT at hq
      by_cases hb : 24 < s.rules.length ∨ 200 < s.nodes.length
      · rw [if_pos hb] at hq; rw [hq] at h; simp at h
      · rw [if_neg hb] at hq
        by_cases hn : (namesP s.given s.used).2 = 0
        · rw [if_pos hn] at hq
          obtain ⟨n1, n2⟩ := namesP_zero hn
          exact ⟨toks, s, hR, h1, h2, hp, by omega, by omega, n1, n2, hq⟩
        · rw [if_neg hn] at hq; rw [hq] at h; exact absurd h hn
  · simp only [readQ, if_neg he] at hr
    rw [hr] at h
    exact absurd h he
theorem ReadOk.text {l : List UInt8} {toks : List Tok} {s : RdS} (h : ReadOk l toks s) : textL (toks.length + 1) (toks.length + 1) (toks.map tt) ⟨[], []⟩ [] = some (s.rules, psOf s) ∧ s.given.map Use.name = s.rules.map Rule.name := by
  have h1 := textL_of toks l.length (toks.length + 1) (toks.length + 1) rd0 (Nat.zero_le _)
  have h2 := h.parse
  unfold parseP at h2
  rw [h2] at h1
  have e : rest toks rd0 = toks.map tt := by unfold rest rd0; rw [List.drop_zero]
  rw [e] at h1
  exact ⟨h1.symm, textGo_given _ _ _ _ _ _ h2 rfl⟩
theorem inB_any (u : ByteArray) (rs : List Rule) : inB u (rs.map Rule.name) = rs.any (fun r => decide (r.name = u)) := by
  unfold inB; rw [List.any_map]; rfl
theorem names_distinct {gs : List Use} {rs : List Rule} (h : twiceGo [] gs = none) (he : gs.map Use.name = rs.map Rule.name) (k : Nat) (r : Rule) (hk : rs[k]? = some r) : (rs.take k).any (fun x => decide (x.name = r.name)) = false := by
  have h1 : (gs.map Use.name)[k]? = some r.name := by rw [he, List.getElem?_map, hk]; rfl
  rw [List.getElem?_map] at h1
  cases hg : gs[k]? with
  | none => rw [hg] at h1; cases h1
  | some u =>
    rw [hg] at h1
    simp only [Option.map_some, Option.some.injEq] at h1
    have h2 := twice_none gs [] h k u hg
    rw [List.nil_append, List.map_take, he, ← List.map_take, inB_any, h1] at h2
    exact h2
def PName (u : ByteArray) : Prop := NameL u.data.toList ∧ u.size ≤ 4000
def QQuote (u : ByteArray) : Prop := QuoteL u.data.toList ∧ u.size + 2 ≤ 4000
theorem lex_props {l : List UInt8} {ts : List TT} (h : Lex l ts) (hl : l.length ≤ 4000) : TQ QQuote ts ∧ ∀ t, t ∈ ts → t.1 = 1 → PName t.2 := by
  refine ⟨fun t ht h2 => ?_, fun t ht h1 => ?_⟩
  · have h3 := (h.len t ht).2 h2
    rcases h.ok t ht with ⟨h4, _⟩ | ⟨_, h4⟩ | ⟨h4, _⟩
    · omega
    · exact ⟨h4, by omega⟩
    · omega
  · have h3 := (h.len t ht).1
    rcases h.ok t ht with ⟨_, h4⟩ | ⟨h4, _⟩ | ⟨h4, _⟩
    · exact ⟨h4, by omega⟩
    · omega
    · omega
theorem readP_right {l : List UInt8} (h : (readP l).2.2 = 0) : (readP l).1.right = true := by
  obtain ⟨toks, s, hs⟩ := readP_ok h
  rw [hs.res]
  obtain ⟨ht, hg⟩ := hs.text
  obtain ⟨q1, q2⟩ := lex_props hs.lex hs.len
  obtain ⟨rs', ns, us, e1, e2, e3, e4, e5⟩ := textL_run PName QQuote _ _ _ _ _ _ _ q1 q2 ht
  rw [List.nil_append] at e1
  subst e1
  have e2 : s.nodes = ns := by have := e2; simpa [psOf] using this
  have e3 : s.used.map Use.name = us := by have := e3; simpa [psOf] using this
  have h0 : s.rules ≠ [] := e5 (by omega)
  have hlen := hs.rules
  have hnod := hs.nodes
  unfold Tree.right
  simp only
  rw [if_neg (by have := List.length_pos_iff.2 h0; omega)]
  refine rulesGo_run (us := us) (fun u hu => ?_) (fun u hu => ⟨quote_no39 hu.1, token_quote hu.1 hu.2⟩) (fun u hu => token_name hu.1 hu.2) (fun k r hk => names_distinct hs.twice hg k r hk) e4 [] 0 (by rw [e2]; rfl) rfl rfl
  rw [← e3, List.mem_map] at hu
  obtain ⟨v, hv, rfl⟩ := hu
  have := lack_none _ _ hs.lack v hv
  rwa [hg, inB_any] at this
theorem twice_some : ∀ (gs : List Use) (seen : List ByteArray) (p : Int), twiceGo seen gs = some p → ∃ u, u ∈ gs ∧ p = u.pos := by
  intro gs
  induction gs with
  | nil => intro seen p h; cases h
  | cons g gs ih =>
    intro seen p h
    rw [twiceGo] at h
    split at h
    · injection h with h; exact ⟨g, by simp, h.symm⟩
    · obtain ⟨u, hu, e⟩ := ih _ _ h; exact ⟨u, by simp [hu], e⟩
theorem lack_some : ∀ (us : List Use) (known : List ByteArray) (p : Int), lackGo known us = some p → ∃ u, u ∈ us ∧ p = u.pos := by
  intro us
  induction us with
  | nil => intro known p h; cases h
  | cons g us ih =>
    intro known p h
    rw [lackGo] at h
    split at h
    · obtain ⟨u, hu, e⟩ := ih _ _ h; exact ⟨u, by simp [hu], e⟩
    · injection h with h; exact ⟨g, by simp, h.symm⟩
theorem names_place {gs us : List Use} (h : (namesP gs us).2 ≠ 0) : ∃ u, (u ∈ gs ∨ u ∈ us) ∧ (namesP gs us).1 = u.pos := by
  unfold namesP at h ⊢
  cases h1 : twiceGo [] gs with
  | some p => obtain ⟨u, hu, e⟩ := twice_some _ _ _ h1; exact ⟨u, .inl hu, e⟩
  | none =>
    rw [h1] at h
    simp only at h ⊢
    unfold lackP at h ⊢
    cases h2 : lackGo (gs.map Use.name) us with
    | some p => obtain ⟨u, hu, e⟩ := lack_some _ _ _ h2; exact ⟨u, .inr hu, e⟩
    | none => rw [h2] at h; exact absurd rfl h
theorem readP_place (l : List UInt8) (h : (readP l).2.2 ≠ 0) : 0 ≤ (readP l).2.1 ∧ (readP l).2.1 ≤ l.length ∧ (readP l).1 = noTree := by
  have hr : readP l = readQ l.length (scanL l) := rfl
  have hok := scanL_ok l
  generalize scanL l = R at hr hok
  obtain ⟨toks, a, e⟩ := R
  obtain ⟨h1, h2, h3, _⟩ := hok
  by_cases he : e = 0
  · subst he
    simp only [readQ, if_true] at hr
    have hp := parseP_ok h1
    cases hq : parseP toks l.length with
    | error p => rw [hq] at hr hp; rw [hr]; exact ⟨hp.1, hp.2, rfl⟩
    | ok s =>
      rw [hq] at hr hp
      simp only at hr hp
      unfold readT at hr
      by_cases hb : 24 < s.rules.length ∨ 200 < s.nodes.length
      · rw [if_pos hb] at hr; rw [hr]; exact ⟨Int.le_refl _, Int.natCast_nonneg _, rfl⟩
      · rw [if_neg hb] at hr
        by_cases hn : (namesP s.given s.used).2 = 0
        · rw [if_pos hn] at hr; rw [hr] at h; exact absurd rfl h
        · rw [if_neg hn] at hr
          rw [hr]
          refine ⟨?_, ?_, rfl⟩
          · obtain ⟨u, hu, hp2⟩ := names_place hn
            show 0 ≤ (namesP s.given s.used).1
            rw [hp2]; exact (hp u hu).2.1
          · obtain ⟨u, hu, hp2⟩ := names_place hn
            show (namesP s.given s.used).1 ≤ _
            rw [hp2]; exact (hp u hu).2.2
  · simp only [readQ, if_neg he] at hr
    rw [hr]
    exact ⟨h2, h3, rfl⟩
end Go.Proofs.Ytoiejgmfgcdniaa
