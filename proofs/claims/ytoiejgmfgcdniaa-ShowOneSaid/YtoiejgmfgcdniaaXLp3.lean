import Derived.Test.YtoiejgmfgcdniaaXLex1
import Derived.Test.YtoiejgmfgcdniaaXRules4
set_option linter.unusedVariables false
set_option linter.unusedSimpArgs false
namespace Go.Proofs.Ytoiejgmfgcdniaa
open Go.RowKit Go.Proofs.YtoiejgmfgcdniaaW.PrintWords

/-! ### all rules, over the tokens that are left (plain) -/
def textL (F : Nat) : Nat → List TT → PS → List Rule → Option (List Rule × PS)
  | 0, _, st, rs => some (rs, st)
  | f + 1, l, st, rs =>
    match l with
    | [] => none
    | x :: r =>
      if x.1 = 1 then
        if isM r (mkB 58) then
          match altLF F r.tail st with
          | none => none
          | some (n, l1, st1) =>
            if isM l1 (mkB 59) then
              if l1.tail.isEmpty then some (rs ++ [⟨x.2, n⟩], st1) else textL F f l1.tail st1 (rs ++ [⟨x.2, n⟩])
            else none
        else none
      else none
def prT : Except Int RdS → Option (List Rule × PS)
  | .ok s => some (s.rules, psOf s)
  | .error _ => none
theorem textL_of (toks : List Tok) (en : Int) (F : Nat) : ∀ (f : Nat) (s : RdS), s.pos ≤ toks.length → prT (textGo toks en (altF toks en F) f s) = textL F f (rest toks s) (psOf s) s.rules := by
  intro f
  induction f with
  | zero => intro s hs; rfl
  | succ f ih =>
    intro s hs
    rw [textGo]
    unfold nameP
    cases hx : toks[s.pos]? with
    | none =>
      have : rest toks s = [] := by unfold rest; rw [List.drop_eq_nil_of_le (List.getElem?_eq_none_iff.1 hx)]; rfl
      rw [this]
      rfl
    | some x =>
      have e : rest toks s = tt x :: rest toks (stepS s) := by unfold rest; rw [drop_of hx]; rfl
      have hlt := (List.getElem?_eq_some_iff.1 hx).1
      rw [e, textL]
      simp only
      by_cases h1 : x.kind = 1
      · rw [if_pos h1, if_pos (show (tt x).1 = 1 from h1), isM_rest]
        simp only
        show prT (if isMark toks (s.pos + 1) (mkB 58) = true then _ else _) = if isMark toks (s.pos + 1) (mkB 58) = true then _ else _
        by_cases hm : isMark toks (s.pos + 1) (mkB 58) = true
        · rw [if_pos hm, if_pos hm]
          have hml := isMark_lt hm
          have e2 : (rest toks (stepS s)).tail = rest toks (stepS (giveS s ⟨x.text, x.pos⟩)) := by rw [tail_rest]; rfl
          have e3 : psOf s = psOf (stepS (giveS s ⟨x.text, x.pos⟩)) := rfl
          rw [e2, e3, ← altF_of toks en F _ (by show s.pos + 1 + 1 ≤ _; omega)]
          cases ha : altF toks en F (stepS (giveS s ⟨x.text, x.pos⟩)) with
          | error p => rfl
          | ok r =>
            obtain ⟨n, s2⟩ := r
            have hk := (altF_keep toks en F _ _ _ ha).1
            have hk : s2.rules = s.rules := hk
            simp only [pr]
            rw [isM_rest]
            by_cases hm2 : isMark toks s2.pos (mkB 59) = true
            · rw [if_pos hm2, if_pos hm2, tail_rest]
              have hml2 := isMark_lt hm2
              by_cases h5 : s2.pos + 1 < toks.length
              · have hne : (rest toks (stepS s2)).isEmpty = false := by
                  cases hr : rest toks (stepS s2) with
                  | nil =>
                    have := congrArg List.length hr
                    unfold rest stepS at this
                    simp at this
                    omega
                  | cons a b => rfl
                rw [if_pos h5, hne, ih _ (by show s2.pos + 1 ≤ _; omega)]
                show textL F f (rest toks (stepS s2)) (psOf s2) (s2.rules ++ [_]) = _
                rw [hk]
                rfl
              · have hne : (rest toks (stepS s2)).isEmpty = true := by
                  have : rest toks (stepS s2) = [] := by unfold rest stepS; rw [List.drop_eq_nil_of_le (by show _ ≤ s2.pos + 1; omega)]; rfl
                  rw [this]; rfl
                rw [if_neg h5, hne]
                show some (s2.rules ++ [_], psOf s2) = some _
                rw [hk]
                rfl
            · rw [if_neg hm2, if_neg hm2]; rfl
        · rw [if_neg hm, if_neg hm]; rfl
      · rw [if_neg h1, if_neg (show ¬ (tt x).1 = 1 from h1)]; rfl
theorem textGo_given (toks : List Tok) (en : Int) (F : Nat) : ∀ (f : Nat) (s s1 : RdS), textGo toks en (altF toks en F) f s = .ok s1 → s.given.map Use.name = s.rules.map Rule.name → s1.given.map Use.name = s1.rules.map Rule.name := by
  intro f
  induction f with
  | zero => intro s s1 h he; simp only [textGo, Except.ok.injEq] at h; subst h; exact he
  | succ f ih =>
    intro s s1 h he
    rw [textGo] at h
    cases hn : nameP toks en s.pos with
    | error p => rw [hn] at h; cases h
    | ok u =>
      rw [hn] at h
      simp only at h
      split at h
      · cases ha : altF toks en F (stepS (giveS s u)) with
        | error p => rw [ha] at h; cases h
        | ok r =>
          obtain ⟨n, s2⟩ := r
          rw [ha] at h
          simp only at h
          obtain ⟨k1, k2⟩ := altF_keep toks en F _ _ _ ha
          have hr : (ruleS s2 ⟨u.name, n⟩).given.map Use.name = (ruleS s2 ⟨u.name, n⟩).rules.map Rule.name := by
            show s2.given.map _ = (s2.rules ++ [_]).map _
            rw [k1, k2]
            show (s.given ++ [u]).map _ = (s.rules ++ [_]).map _
            rw [List.map_append, List.map_append, he]
            rfl
          split at h
          · split at h
            · exact ih _ _ h hr
            · simp only [Except.ok.injEq] at h; subst h; exact hr
          · cases h
      · cases h
/-! ### the rules that are laid -/
inductive RRun (P Q : ByteArray → Prop) (us : List ByteArray) : Nat → List Rule → List Node → Prop
  | nil (pos : Nat) : RRun P Q us pos [] []
  | cons {pos : Nat} {nm : ByteArray} {n : Int} {xs ns : List Node} {rs : List Rule} : P nm → stk pos [] xs = some [n] → (∀ x, x ∈ xs → ShapeN us Q x) → RRun P Q us (pos + xs.length) rs ns → RRun P Q us pos (⟨nm, n⟩ :: rs) (xs ++ ns)
theorem RRun.mono {P Q : ByteArray → Prop} {us vs : List ByteArray} {pos : Nat} {rs : List Rule} {ns : List Node} (h : RRun P Q us pos rs ns) (hu : ∀ u, u ∈ us → u ∈ vs) : RRun P Q vs pos rs ns := by
  induction h with
  | nil => exact .nil _
  | cons h1 h2 h3 _ ih => exact .cons h1 h2 (fun x hx => (h3 x hx).mono hu) ih
theorem textL_run (P Q : ByteArray → Prop) (F : Nat) : ∀ (f : Nat) (l : List TT) (st st1 : PS) (rs0 rs : List Rule), TQ Q l → (∀ t, t ∈ l → t.1 = 1 → P t.2) → textL F f l st rs0 = some (rs, st1) →
    ∃ rs' ns us, rs = rs0 ++ rs' ∧ st1.nodes = st.nodes ++ ns ∧ st1.used = st.used ++ us ∧ RRun P Q us st.nodes.length rs' ns ∧ (0 < f → rs' ≠ []) := by
  intro f
  induction f with
  | zero => intro l st st1 rs0 rs hq hp h; simp only [textL, Option.some.injEq, Prod.mk.injEq] at h; obtain ⟨rfl, rfl⟩ := h; exact ⟨[], [], [], by simp, by simp, by simp, .nil _, by omega⟩
  | succ f ih =>
    intro l st st1 rs0 rs hq hp h
    cases l with
    | nil => cases h
    | cons x r =>
      rw [textL] at h
      by_cases h1 : x.1 = 1
      · rw [if_pos h1] at h
        split at h
        · cases ha : altLF F r.tail st with
          | none => rw [ha] at h; cases h
          | some q =>
            obtain ⟨n, l1, st2⟩ := q
            rw [ha] at h
            simp only at h
            have hs : r.tail <:+ x :: r := (List.tail_suffix r).trans (List.suffix_cons x r)
            obtain ⟨s1, xs, us, e1, e2, e3, e4⟩ := altLF_run Q F _ _ _ _ _ (hq.suf hs) ha
            have e3' := e3 []
            rw [List.nil_append] at e3'
            have hPx := hp x (by simp) h1
            split at h
            · split at h
              · simp only [Option.some.injEq, Prod.mk.injEq] at h
                obtain ⟨rfl, rfl⟩ := h
                refine ⟨[⟨x.2, n⟩], xs, us, rfl, e1, e2, ?_, by simp⟩
                have := RRun.cons (P := P) hPx e3' e4 (.nil _)
                rwa [List.append_nil] at this
              · have hs2 : l1.tail <:+ x :: r := ((List.tail_suffix l1).trans s1).trans hs
                obtain ⟨rs', ns, vs, g1, g2, g3, g4, _⟩ := ih _ _ _ _ _ (hq.suf hs2) (fun t ht => hp t (hs2.subset ht)) h
                refine ⟨⟨x.2, n⟩ :: rs', xs ++ ns, us ++ vs, by rw [g1]; simp, by rw [g2, e1, List.append_assoc], by rw [g3, e2, List.append_assoc], ?_, by simp⟩
                rw [e1, List.length_append] at g4
                exact .cons hPx e3' (fun y hy => (e4 y hy).mono (fun u hu => List.mem_append_left _ hu)) (g4.mono (fun u hu => List.mem_append_right _ hu))
            · cases h
        · cases h
      · rw [if_neg h1] at h; cases h
/-! ### such rules are right -/
theorem openGo_stk {rs : List Rule} {N : List Node} : ∀ (xs : List Node) (pos : Nat) (o : List Int), (∀ x, x ∈ xs → fineB rs x = true) → (∀ j x, xs[j]? = some x → N[pos + j]? = some x) → openGo rs N xs.length pos o = stk pos o xs := by
  intro xs
  induction xs with
  | nil => intro pos o _ _; rfl
  | cons x xs ih =>
    intro pos o hf hN
    have h0 := hN 0 x rfl
    rw [Nat.add_zero] at h0
    rw [List.length_cons, openGo, h0]
    simp only [openStep, stk]
    rw [if_neg (by rw [hf x (by simp)]; decide)]
    by_cases h1 : o.length < x.kids.length
    · rw [if_pos h1, if_pos h1]
    · rw [if_neg h1, if_neg h1]
      by_cases h2 : o.drop (o.length - x.kids.length) = x.kids
      · rw [if_pos h2, if_pos h2]
        exact ih _ _ (fun y hy => hf y (by simp [hy])) (fun j y hy => by have := hN (j + 1) y hy; rwa [show pos + (j + 1) = pos + 1 + j by omega] at this)
      · rw [if_neg h2, if_neg h2]
theorem stk_last : ∀ (xs : List Node) (pos : Nat) (o o' : List Int), xs ≠ [] → stk pos o xs = some o' → o'.getLast? = some ((pos + xs.length - 1 : Nat) : Int) := by
  intro xs
  induction xs with
  | nil => intro pos o o' h; exact absurd rfl h
  | cons x xs ih =>
    intro pos o o' _ h
    rw [stk] at h
    split at h
    · cases h
    · split at h
      · by_cases hx : xs = []
        · subst hx
          simp only [stk, Option.some.injEq] at h
          subst h
          simp
        · have := ih _ _ _ hx h
          rw [this, List.length_cons]
          congr 2
          omega
      · cases h
theorem fine_of_shape {rs : List Rule} {us : List ByteArray} {Q : ByteArray → Prop} {x : Node} (h : ShapeN us Q x) (hu : ∀ u, u ∈ us → rs.any (fun r => decide (r.name = u)) = true) (hQ : ∀ u, Q u → u.data.toList.contains 39 = false ∧ tokenB (bs (39 :: u.data.toList ++ [39])) 2 = true) : fineB rs x = true := by
  unfold fineB
  rcases h with ⟨h1, h2, h3⟩ | ⟨h1, h2, h3⟩ | ⟨h1, h2, h3⟩ | ⟨h1, h2, h3⟩ | ⟨h1, h2, h3⟩
  · rw [if_pos h1]; simp [h2, h3]
  · rw [if_neg (by omega), if_pos h1]; simp [h2, h3]
  · rw [if_neg (by omega), if_neg (by omega), if_pos h1]; simp [h2, h3]
  · rw [if_neg (by omega), if_neg (by omega), if_neg (by omega), if_pos h1, hu _ h3, h2]; rfl
  · rw [if_neg (by omega), if_neg (by omega), if_neg (by omega), if_neg (by omega), if_pos h1, h2, (hQ _ h3).1, (hQ _ h3).2]; rfl
theorem rulesGo_run {rsA : List Rule} {N : List Node} {P Q : ByteArray → Prop} {us : List ByteArray} (hu : ∀ u, u ∈ us → rsA.any (fun r => decide (r.name = u)) = true) (hQ : ∀ u, Q u → u.data.toList.contains 39 = false ∧ tokenB (bs (39 :: u.data.toList ++ [39])) 2 = true)
    (hP : ∀ u, P u → tokenB u 1 = true) (hD : ∀ k r, rsA[k]? = some r → (rsA.take k).any (fun x => decide (x.name = r.name)) = false) {pos : Nat} {rs : List Rule} {ns : List Node} (h : RRun P Q us pos rs ns) :
    ∀ (N0 : List Node) (k : Nat), N = N0 ++ ns → N0.length = pos → rsA.drop k = rs → rulesGo rsA N rs k pos = true := by
  induction h with
  | nil pos => intro N0 k e1 e2 e3; rw [rulesGo, e1]; simp [e2]
  | @cons pos nm n xs ns rs h1 h2 h3 h4 ih =>
    intro N0 k e1 e2 e3
    have hk : rsA[k]? = some ⟨nm, n⟩ := by have := congrArg (fun l => l[0]?) e3; simpa using this
    have hk2 : rsA.drop (k + 1) = rs := by rw [drop_of hk] at e3; injection e3
    have hx0 : xs ≠ [] := fun e => by subst e; simp [stk] at h2
    have hl := stk_last _ _ _ _ hx0 h2
    have hx1 : 0 < xs.length := List.length_pos_iff.2 hx0
    simp only [List.getLast?_singleton, Option.some.injEq] at hl
    have hN : ∀ j x, xs[j]? = some x → N[pos + j]? = some x := fun j x hj => by
      have hjl := (List.getElem?_eq_some_iff.1 hj).1
      rw [e1, List.getElem?_append_right (by omega), e2, show pos + j - pos = j by omega, List.getElem?_append_left hjl, hj]
    have hlen : N.length = pos + xs.length + ns.length := by rw [e1, List.length_append, List.length_append, e2]; omega
    rw [rulesGo]
    have hok : ruleOk rsA N k ⟨nm, n⟩ pos = true := by
      unfold ruleOk
      simp only
      rw [hP _ h1, hD k _ hk, decide_eq_true (by omega), decide_eq_true (by omega)]
      rfl
    rw [if_neg (by rw [hok]; decide)]
    have hb : n.toNat + 1 - pos = xs.length := by omega
    simp only
    rw [hb, openGo_stk xs pos [] (fun x hx => fine_of_shape (h3 x hx) hu hQ) hN, h2]
    simp only [List.length_singleton, if_true]
    rw [show n.toNat + 1 = pos + xs.length by omega]
    exact ih (N0 ++ xs) (k + 1) (by rw [e1, List.append_assoc]) (by rw [List.length_append, e2]) hk2
theorem twice_none : ∀ (gs : List Use) (seen : List ByteArray), twiceGo seen gs = none → ∀ k u, gs[k]? = some u → inB u.name (seen ++ (gs.take k).map Use.name) = false := by
  intro gs
  induction gs with
  | nil => intro seen _ k u h; cases h
  | cons g gs ih =>
    intro seen h k u hk
    rw [twiceGo] at h
    cases hi : inB g.name seen
    · rw [hi] at h
      simp only [Bool.false_eq_true, if_false] at h
      cases k with
      | zero =>
        simp only [List.getElem?_cons_zero, Option.some.injEq] at hk
        subst hk
        simpa using hi
      | succ k =>
        simp only [List.getElem?_cons_succ] at hk
        have := ih _ h k u hk
        rw [List.take_succ_cons, List.map_cons]
        rwa [List.append_assoc] at this
    · rw [hi] at h; simp at h
theorem lack_none : ∀ (us : List Use) (known : List ByteArray), lackGo known us = none → ∀ u, u ∈ us → inB u.name known = true := by
  intro us
  induction us with
  | nil => intro known _ u h; cases h
  | cons g us ih =>
    intro known h u hu
    rw [lackGo] at h
    cases hi : inB g.name known
    · rw [hi] at h; simp at h
    · rw [hi] at h
      simp only [if_true] at h
      rcases List.mem_cons.1 hu with rfl | hu
      · exact hi
      · exact ih _ h u hu
end Go.Proofs.Ytoiejgmfgcdniaa
