import Derived.Test.YtoiejgmfgcdniaaXPlain1
set_option linter.unusedVariables false
set_option linter.unusedSimpArgs false
namespace Go.Proofs.Ytoiejgmfgcdniaa
open Go.RowKit

/-! ### a right tree: each node is the kid of one, or one rule's body, and stands behind all below it (plain) -/
def upFrom (pos n : Nat) : List Int := (List.range n).map (fun j => ((pos + j : Nat) : Int))
theorem upFrom_succ (pos n : Nat) : upFrom pos (n + 1) = (pos : Int) :: upFrom (pos + 1) n := by
  unfold upFrom
  rw [List.range_succ_eq_map, List.map_cons, List.map_map]
  congr 1
  apply List.map_congr_left
  intro j _
  simp only [Function.comp]
  omega
theorem upFrom_append (pos a b : Nat) : upFrom pos (a + b) = upFrom pos a ++ upFrom (pos + a) b := by
  induction a generalizing pos with
  | zero => simp [upFrom]
  | succ a ih => rw [show a + 1 + b = (a + b) + 1 by omega, upFrom_succ, upFrom_succ, ih, List.cons_append, show pos + 1 + a = pos + (a + 1) by omega]
structure NodeMay (q : Nat) (x : Node) : Prop where
  up : x.kids.Pairwise (· < ·)
  range : ∀ k, k ∈ x.kids → 0 ≤ k ∧ k < (q : Int)
structure OpenMay (ns : List Node) (f pos : Nat) (o o' : List Int) : Prop where
  nodes : ∀ q, pos ≤ q → q < pos + f → ∃ x, ns[q]? = some x ∧ NodeMay q x
  up : o'.Pairwise (· < ·)
  range : ∀ k, k ∈ o' → 0 ≤ k ∧ k < ((pos + f : Nat) : Int)
  perm : (((ns.drop pos).take f).flatMap Node.kids ++ o').Perm (o ++ upFrom pos f)
theorem openGo_may {rs : List Rule} {ns : List Node} : ∀ (f pos : Nat) (o o' : List Int), openGo rs ns f pos o = some o' → o.Pairwise (· < ·) → (∀ k, k ∈ o → 0 ≤ k ∧ k < (pos : Int)) → OpenMay ns f pos o o' := by
  intro f
  induction f with
  | zero =>
    intro pos o o' h hp hr
    rw [openGo] at h
    injection h with h
    subst h
    exact ⟨fun q h1 h2 => by omega, hp, by simpa using hr, by simp [upFrom]⟩
  | succ f ih =>
    intro pos o o' h hp hr
    rw [openGo] at h
    cases hn : ns[pos]? with
    | none => rw [hn] at h; cases h
    | some n =>
      rw [hn] at h
      simp only at h
      cases hs : openStep rs o n pos with
      | none => rw [hs] at h; cases h
      | some o1 =>
        rw [hs] at h
        simp only at h
        obtain ⟨s1, s2, s3, s4⟩ := openStep_some hs
        generalize o.take (o.length - n.kids.length) = t at s3 s4
        subst s3 s4
        obtain ⟨p1, p2, p3⟩ := List.pairwise_append.1 hp
        have hno : NodeMay pos n := ⟨p2, fun k hk => hr k (List.mem_append_right _ hk)⟩
        have F := ih (pos + 1) (t ++ [(pos : Int)]) o' h (List.pairwise_append.2 ⟨p1, by simp, fun a ha b hb => by
          rw [List.mem_singleton] at hb; subst hb; exact (hr a (List.mem_append_left _ ha)).2⟩) (fun k hk => by
          rcases List.mem_append.1 hk with hk | hk
          · have := hr k (List.mem_append_left _ hk); omega
          · rw [List.mem_singleton] at hk; omega)
        refine ⟨fun q h1 h2 => ?_, F.up, fun k hk => by have := F.range k hk; omega, ?_⟩
        · by_cases e : q = pos
          · subst e; exact ⟨n, hn, hno⟩
          · exact F.nodes q (by omega) (by omega)
        · rw [drop_of hn, List.take_succ_cons, List.flatMap_cons, upFrom_succ, List.append_assoc]
          have h1 := (F.perm.append_left n.kids)
          refine h1.trans ?_
          rw [← List.append_assoc, ← List.append_assoc, List.append_assoc t n.kids, ← List.append_assoc]
          refine (List.Perm.append_right _ ?_).trans (List.Perm.of_eq ?_) (l₂ := (t ++ n.kids) ++ [(pos : Int)] ++ upFrom (pos + 1) f)
          · exact (List.Perm.append_right _ List.perm_append_comm)
          · simp
structure RulesMay (ns : List Node) (l : List Rule) (pos : Nat) : Prop where
  nodes : ∀ q, pos ≤ q → q < ns.length → ∃ x, ns[q]? = some x ∧ NodeMay q x
  up : (l.map Rule.body).Pairwise (· < ·)
  range : ∀ r, r ∈ l → (pos : Int) ≤ r.body ∧ r.body < ns.length
  perm : ((ns.drop pos).flatMap Node.kids ++ l.map Rule.body).Perm (upFrom pos (ns.length - pos))
  le : pos ≤ ns.length
  none : l = [] → pos = ns.length
  last : l ≠ [] → (l.map Rule.body).getLast? = some ((ns.length : Int) - 1)
theorem rulesGo_may {rs : List Rule} {ns : List Node} : ∀ (l : List Rule) (k pos : Nat), rulesGo rs ns l k pos = true → RulesMay ns l pos := by
  intro l
  induction l with
  | nil =>
    intro k pos h
    rw [rulesGo] at h
    have : pos = ns.length := by simpa using h
    subst this
    exact ⟨fun q h1 h2 => by omega, by simp, by simp, by simp [upFrom], Nat.le_refl _, fun _ => rfl, fun h => absurd rfl h⟩
  | cons r l ih =>
    intro k pos h
    rw [rulesGo] at h
    split at h
    · cases h
    · rename_i hok
      have hok : ruleOk rs ns k r pos = true := by simpa using hok
      unfold ruleOk at hok
      simp only [Bool.and_eq_true, decide_eq_true_eq] at hok
      obtain ⟨_, _, hb1, hb2⟩ := hok
      cases ho : openGo rs ns (r.body.toNat + 1 - pos) pos [] with
      | none => rw [ho] at h; cases h
      | some o =>
        rw [ho] at h
        simp only at h
        split at h
        · rename_i hl1
          have F := openGo_may _ _ _ _ ho (by simp) (by simp)
          have F0 := openGo_facts _ _ _ _ ho (by simp) (by simp)
          have G := ih _ _ h
          have hlast := F0.last (by omega)
          obtain ⟨b, hb⟩ : ∃ b : Nat, r.body = b := ⟨r.body.toNat, by omega⟩
          rw [hb] at F hlast G hb1 hb2
          rw [Int.toNat_natCast] at F hlast G
          have hob : o = [(b : Int)] := by
            obtain ⟨z, rfl⟩ := List.length_eq_one_iff.1 hl1
            simp only [List.getLast?_singleton, Option.some.injEq] at hlast
            rw [hlast, show pos + (b + 1 - pos) - 1 = b by omega]
          have hle := G.le
          refine ⟨fun q h1 h2 => ?_, ?_, fun r' hr' => ?_, ?_, by omega, fun e => by simp at e, fun _ => ?_⟩
          · by_cases hq : q < b + 1
            · exact F.nodes q h1 (by omega)
            · exact G.nodes q (by omega) h2
          · rw [List.map_cons, List.pairwise_cons]
            refine ⟨fun a ha => ?_, G.up⟩
            obtain ⟨r', hr', rfl⟩ := List.mem_map.1 ha
            have := G.range r' hr'
            omega
          · rcases List.mem_cons.1 hr' with rfl | hr'
            · rw [hb]; omega
            · have := G.range r' hr'; omega
          · have hsplit : ns.drop pos = (ns.drop pos).take (b + 1 - pos) ++ ns.drop (b + 1) := by
              conv => lhs; rw [← List.take_append_drop (b + 1 - pos) (ns.drop pos)]
              rw [List.drop_drop, show pos + (b + 1 - pos) = b + 1 by omega]
            rw [hsplit, List.flatMap_append, List.map_cons, hb, show ns.length - pos = (b + 1 - pos) + (ns.length - (b + 1)) by omega, upFrom_append, show pos + (b + 1 - pos) = b + 1 by omega]
            have h1 := F.perm
            rw [hob, List.nil_append] at h1
            refine List.Perm.trans ?_ (h1.append G.perm)
            simp only [List.append_assoc, List.singleton_append]
            refine List.Perm.append_left _ ?_
            exact List.perm_middle.symm.symm
          · by_cases hl : l = []
            · subst hl
              have := G.none rfl
              rw [List.map_cons, hb]
              simp only [List.map_nil, List.getLast?_singleton]
              congr 1
              omega
            · have := G.last hl
              rw [List.map_cons, List.getLast?_cons, this]
              rfl
        · cases h
/-- How often each number stands in a list. -/
def cnt (n : Nat) (L : List Int) : List Int := (List.range n).map (fun (j : Nat) => ((L.count (j : Int) : Nat) : Int))
theorem cnt_len (n : Nat) (L : List Int) : (cnt n L).length = n := by simp [cnt]
theorem cnt_get {n j : Nat} (L : List Int) (h : j < n) : (cnt n L)[j]? = some ((L.count (j : Int) : Nat) : Int) := by
  unfold cnt; rw [List.getElem?_map, List.getElem?_range h]; rfl
theorem cnt_nil (n : Nat) : cnt n [] = List.replicate n 0 := by
  apply List.ext_getElem?
  intro j
  by_cases h : j < n
  · rw [cnt_get _ h, List.getElem?_replicate, if_pos h]; simp
  · rw [List.getElem?_eq_none (by rw [cnt_len]; omega), List.getElem?_eq_none (by simp; omega)]
theorem cnt_snoc {n k : Nat} (L : List Int) (h : k < n) : cnt n (L ++ [(k : Int)]) = (cnt n L).set k (((L.count (k : Int) : Nat) : Int) + 1) := by
  apply List.ext_getElem?
  intro j
  by_cases hj : j < n
  · rw [cnt_get _ hj, List.getElem?_set]
    by_cases e : k = j
    · subst e
      rw [if_pos rfl, if_pos (by rw [cnt_len]; exact h), List.count_append]
      simp
    · rw [if_neg e, cnt_get _ hj, List.count_append, List.count_singleton]
      simp only [Option.some.injEq]
      rw [if_neg (by simp; omega)]
      rfl
  · rw [List.getElem?_eq_none (by rw [cnt_len]; omega), List.getElem?_eq_none (by rw [List.length_set, cnt_len]; omega)]
theorem count_up : ∀ (n pos j : Nat), (upFrom pos n).count (j : Int) = if pos ≤ j ∧ j < pos + n then 1 else 0 := by
  intro n
  induction n with
  | zero => intro pos j; rw [if_neg (by omega)]; rfl
  | succ n ih =>
    intro pos j
    rw [upFrom_succ, List.count_cons, ih]
    by_cases e : pos = j
    · subst e
      rw [if_neg (by omega), if_pos (by simp), if_pos (by omega)]
    · have hb : ((pos : Int) == (j : Int)) = false := beq_eq_false_iff_ne.2 (by omega)
      rw [hb]
      simp only [Bool.false_eq_true, if_false, Nat.add_zero]
      by_cases h : pos + 1 ≤ j ∧ j < pos + 1 + n
      · rw [if_pos h, if_pos (by omega)]
      · rw [if_neg h, if_neg (by omega)]
theorem cnt_all {n : Nat} {L : List Int} (h : L.Perm (upFrom 0 n)) {j : Nat} (hj : j < n) : (cnt n L)[j]? = some 1 := by
  rw [cnt_get _ hj, h.count_eq, count_up, if_pos (by omega)]
  rfl
end Go.Proofs.Ytoiejgmfgcdniaa
