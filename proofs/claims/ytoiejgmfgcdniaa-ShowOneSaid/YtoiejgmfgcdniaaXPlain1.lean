import Derived.Test.YtoiejgmfgcdniaaXRules4
set_option linter.unusedVariables false
set_option linter.unusedSimpArgs false
namespace Go.Proofs.Ytoiejgmfgcdniaa
open Go.RowKit

/-! ### what a right tree is (plain) -/
structure NodeOk (rs : List Rule) (q : Nat) (x : Node) : Prop where
  fine : fineB rs x = true
  len : x.kids.length ≤ q
  kids : ∀ k, k ∈ x.kids → 0 ≤ k ∧ k < (q : Int)
structure OpenFacts (rs : List Rule) (ns : List Node) (f pos : Nat) (o o' : List Int) : Prop where
  nodes : ∀ q, pos ≤ q → q < pos + f → ∃ x, ns[q]? = some x ∧ NodeOk rs q x
  range : ∀ k, k ∈ o' → 0 ≤ k ∧ k < ((pos + f : Nat) : Int)
  len : o'.length ≤ pos + f
  keep : ∀ k, (k ∈ o ∨ ∃ q : Nat, k = q ∧ pos ≤ q ∧ q < pos + f) → k ∈ o' ∨ ∃ (q : Nat) (x : Node), pos ≤ q ∧ q < pos + f ∧ ns[q]? = some x ∧ k ∈ x.kids
  last : 0 < f → o'.getLast? = some ((pos + f - 1 : Nat) : Int)
theorem openStep_some {rs : List Rule} {o o' : List Int} {n : Node} {pos : Nat} (h : openStep rs o n pos = some o') :
    fineB rs n = true ∧ n.kids.length ≤ o.length ∧ o = o.take (o.length - n.kids.length) ++ n.kids ∧ o' = o.take (o.length - n.kids.length) ++ [(pos : Int)] := by
  unfold openStep at h
  split at h
  · cases h
  · rename_i h1
    split at h
    · cases h
    · rename_i h2
      split at h
      · rename_i h3
        injection h with h
        refine ⟨by simpa using h1, by omega, ?_, h.symm⟩
        conv => lhs; rw [← List.take_append_drop (o.length - n.kids.length) o]
        rw [h3]
      · cases h
theorem openGo_facts {rs : List Rule} {ns : List Node} : ∀ (f pos : Nat) (o o' : List Int), openGo rs ns f pos o = some o' → (∀ k, k ∈ o → 0 ≤ k ∧ k < (pos : Int)) → o.length ≤ pos → OpenFacts rs ns f pos o o' := by
  intro f
  induction f with
  | zero =>
    intro pos o o' h hr hl
    rw [openGo] at h
    injection h with h
    subst h
    exact ⟨fun q h1 h2 => by omega, by simpa using hr, by simpa using hl, fun k hk => hk.elim .inl (fun ⟨q, _, h1, h2⟩ => by omega), fun h => by omega⟩
  | succ f ih =>
    intro pos o o' h hr hl
    rw [openGo] at h
    cases hn : ns[pos]? with
    | none => rw [hn] at h; cases h
    | some n =>
      rw [hn] at h
      simp only at h
      cases hs : openStep rs o n pos with
      | none => rw [hs] at h; cases h
      | some o1 =>
        rw [hs] at h
        simp only at h
        obtain ⟨s1, s2, s3, s4⟩ := openStep_some hs
        have hk : ∀ k, k ∈ n.kids → k ∈ o := fun k hk => by rw [s3]; exact List.mem_append_right _ hk
        have F := ih (pos + 1) o1 o' h (fun k hk => by
          rw [s4, List.mem_append, List.mem_singleton] at hk
          rcases hk with hk | rfl
          · have := hr k (List.mem_of_mem_take hk); omega
          · omega) (by rw [s4, List.length_append, List.length_singleton, List.length_take]; omega)
        have hno : NodeOk rs pos n := ⟨s1, by omega, fun k hk2 => hr k (hk k hk2)⟩
        refine ⟨fun q h1 h2 => ?_, fun k hk => ?_, ?_, fun k hk => ?_, fun _ => ?_⟩
        · by_cases e : q = pos
          · subst e; exact ⟨n, hn, hno⟩
          · exact F.nodes q (by omega) (by omega)
        · have := F.range k hk; rw [show pos + (f + 1) = pos + 1 + f by omega]; exact this
        · have := F.len; omega
        · have lift : (k ∈ o1 ∨ ∃ q : Nat, k = q ∧ pos + 1 ≤ q ∧ q < pos + 1 + f) → k ∈ o' ∨ ∃ (q : Nat) (x : Node), pos ≤ q ∧ q < pos + (f + 1) ∧ ns[q]? = some x ∧ k ∈ x.kids := fun h1 => by
            rcases F.keep k h1 with h2 | ⟨q, x, h2, h3, h4, h5⟩
            · exact .inl h2
            · exact .inr ⟨q, x, by omega, by omega, h4, h5⟩
          rcases hk with hk | ⟨q, rfl, h1, h2⟩
          · rw [s3, List.mem_append] at hk
            rcases hk with hk | hk
            · exact lift (.inl (by rw [s4]; exact List.mem_append_left _ hk))
            · exact .inr ⟨pos, n, by omega, by omega, hn, hk⟩
          · by_cases e : q = pos
            · subst e; exact lift (.inl (by rw [s4]; simp))
            · exact lift (.inr ⟨q, rfl, by omega, by omega⟩)
        · by_cases e : f = 0
          · subst e
            rw [openGo] at h
            injection h with h
            rw [← h, s4]
            simp
          · have := F.last (by omega)
            rw [show pos + (f + 1) - 1 = pos + 1 + f - 1 by omega]; exact this
structure RulesFacts (rs : List Rule) (ns : List Node) (l : List Rule) (pos : Nat) : Prop where
  body : ∀ r, r ∈ l → (pos : Int) ≤ r.body ∧ r.body < ns.length
  nodes : ∀ q, pos ≤ q → q < ns.length → ∃ x, ns[q]? = some x ∧ NodeOk rs q x
  owner : ∀ q : Nat, pos ≤ q → q < ns.length → (∃ r, r ∈ l ∧ r.body = q) ∨ ∃ (p : Nat) (x : Node), ns[p]? = some x ∧ (q : Int) ∈ x.kids
  le : pos ≤ ns.length
theorem rulesGo_facts {rs : List Rule} {ns : List Node} : ∀ (l : List Rule) (k pos : Nat), rulesGo rs ns l k pos = true → RulesFacts rs ns l pos := by
  intro l
  induction l with
  | nil =>
    intro k pos h
    rw [rulesGo] at h
    have : pos = ns.length := by simpa using h
    exact ⟨by simp, fun q h1 h2 => by omega, fun q h1 h2 => by omega, by omega⟩
  | cons r l ih =>
    intro k pos h
    rw [rulesGo] at h
    split at h
    · cases h
    · rename_i hok
      have hok : ruleOk rs ns k r pos = true := by simpa using hok
      unfold ruleOk at hok
      simp only [Bool.and_eq_true, decide_eq_true_eq] at hok
      obtain ⟨_, _, hb1, hb2⟩ := hok
      cases ho : openGo rs ns (r.body.toNat + 1 - pos) pos [] with
      | none => rw [ho] at h; cases h
      | some o =>
        rw [ho] at h
        simp only at h
        split at h
        · rename_i hl1
          have F := openGo_facts _ _ _ _ ho (by simp) (by simp)
          have G := ih _ _ h
          have hlast := F.last (by omega)
          obtain ⟨b, hb⟩ : ∃ b : Nat, r.body = b := ⟨r.body.toNat, by omega⟩
          rw [hb] at F hlast G hb1 hb2
          rw [Int.toNat_natCast] at F hlast G
          have hob : o = [(b : Int)] := by
            obtain ⟨z, rfl⟩ := List.length_eq_one_iff.1 hl1
            simp only [List.getLast?_singleton, Option.some.injEq] at hlast
            rw [hlast, show pos + (b + 1 - pos) - 1 = b by omega]
          refine ⟨fun r' hr' => ?_, fun q h1 h2 => ?_, fun q h1 h2 => ?_, by have := G.le; omega⟩
          · rcases List.mem_cons.1 hr' with rfl | hr'
            · rw [hb]; omega
            · have := G.body r' hr'; omega
          · by_cases hq : q < b + 1
            · exact F.nodes q h1 (by omega)
            · exact G.nodes q (by omega) h2
          · by_cases hq : q < b + 1
            · rcases F.keep q (.inr ⟨q, rfl, h1, by omega⟩) with h3 | ⟨p, x, _, _, h4, h5⟩
              · rw [hob, List.mem_singleton] at h3
                exact .inl ⟨r, by simp, by rw [hb]; exact h3.symm⟩
              · exact .inr ⟨p, x, h4, h5⟩
            · rcases G.owner q (by omega) h2 with ⟨r', h3, h4⟩ | h3
              · exact .inl ⟨r', List.mem_cons_of_mem _ h3, h4⟩
              · exact .inr h3
        · cases h
structure TreeFacts (rs : List Rule) (ns : List Node) : Prop where
  rpos : 0 < rs.length
  rlen : rs.length ≤ 24
  nlen : ns.length ≤ 200
  body : ∀ r, r ∈ rs → 0 ≤ r.body ∧ r.body < ns.length
  nodes : ∀ q x, ns[q]? = some x → NodeOk rs q x
  owner : ∀ q : Nat, q < ns.length → (∃ r, r ∈ rs ∧ r.body = q) ∨ ∃ (p : Nat) (x : Node), ns[p]? = some x ∧ (q : Int) ∈ x.kids
theorem right_facts {t : Tree} (h : t.right = true) : TreeFacts t.rules t.nodes := by
  unfold Tree.right at h
  split at h
  · cases h
  · rename_i h0
    have F := rulesGo_facts _ _ _ h
    refine ⟨by omega, by omega, by omega, fun r hr => by have := F.body r hr; omega, fun q x hx => ?_, fun q hq => F.owner q (by omega) hq⟩
    obtain ⟨x', hx', hn⟩ := F.nodes q (by omega) (List.getElem?_eq_some_iff.1 hx).1
    rw [hx] at hx'
    injection hx' with hx'
    subst hx'
    exact hn
/-- How many kids a node of a right tree has, by its kind. -/
theorem fine_kids {rs : List Rule} {x : Node} (h : fineB rs x = true) : (x.kind = 2 → 1 < x.kids.length) ∧ (x.kind = 3 ∨ x.kind = 4 ∨ x.kind = 5 → x.kids.length = 1) ∧ (x.kind = 1 ∨ x.kind = 2 ∨ x.kind = 3 ∨ x.kind = 4 ∨ x.kind = 5 ∨ x.kind = 6 ∨ x.kind = 7) ∧ (x.kind = 6 ∨ x.kind = 7 → x.kids = []) := by
  unfold fineB at h
  split at h
  · rename_i h1; exact ⟨fun h2 => by omega, fun h2 => by omega, .inl h1, fun h2 => by omega⟩
  · split at h
    · rename_i h1; simp only [Bool.and_eq_true, decide_eq_true_eq] at h; exact ⟨fun _ => h.2, fun h2 => by omega, .inr (.inl h1), fun h2 => by omega⟩
    · split at h
      · rename_i h1; simp only [Bool.and_eq_true, beq_iff_eq] at h; exact ⟨fun h2 => by omega, fun _ => h.2, by omega, fun h2 => by omega⟩
      · split at h
        · rename_i h1; simp only [Bool.and_eq_true, beq_iff_eq] at h; exact ⟨fun h2 => by omega, fun h2 => by omega, by omega, fun _ => List.length_eq_zero_iff.1 h.1⟩
        · split at h
          · rename_i h1; simp only [Bool.and_eq_true, beq_iff_eq] at h; exact ⟨fun h2 => by omega, fun h2 => by omega, by omega, fun _ => List.length_eq_zero_iff.1 h.1⟩
          · cases h
end Go.Proofs.Ytoiejgmfgcdniaa
