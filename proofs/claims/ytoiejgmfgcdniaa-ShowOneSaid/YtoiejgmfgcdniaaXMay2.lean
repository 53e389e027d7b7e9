import Derived.Test.YtoiejgmfgcdniaaXMay1
import Derived.Test.YtoiejgmfgcdniaaXLp4
import Derived.Test.YtoiejgmfgcdniaaXAw61
set_option linter.unusedVariables false
set_option linter.unusedSimpArgs false
namespace Go.Proofs.Ytoiejgmfgcdniaa
open Go.RowKit Go.Proofs.YtoiejgmfgcdniaaW.PrintWords

/-! ### RulesMay: the walk -/
theorem rulesGo_names {rs : List Rule} {ns : List Node} : ∀ (l : List Rule) (k pos : Nat), rulesGo rs ns l k pos = true → ∀ r, r ∈ l → tokenB r.name 1 = true := by
  intro l
  induction l with
  | nil => intro k pos _ r hr; cases hr
  | cons r l ih =>
    intro k pos h
    rw [rulesGo] at h
    split at h
    · cases h
    · rename_i hok
      have hok : ruleOk rs ns k r pos = true := by simpa using hok
      unfold ruleOk at hok
      simp only [Bool.and_eq_true] at hok
      cases ho : openGo rs ns (r.body.toNat + 1 - pos) pos [] with
      | none => rw [ho] at h; cases h
      | some o =>
        rw [ho] at h
        simp only at h
        split at h
        · intro r' hr'
          rcases List.mem_cons.1 hr' with rfl | hr'
          · exact hok.1
          · exact ih _ _ h r' hr'
        · cases h
structure RightParts (t : Tree) : Prop where
  rne : t.rules ≠ []
  rl : t.rules.length ≤ 24
  nl : t.nodes.length ≤ 200
  may : RulesMay t.nodes t.rules 0
  names : ∀ r, r ∈ t.rules → PName r.name
  fine : ∀ n, n ∈ t.nodes → fineB t.rules n = true
theorem right_parts {t : Tree} (h : t.right = true) : RightParts t := by
  unfold Tree.right at h
  split at h
  · cases h
  · rename_i h1
    rw [not_or, not_or] at h1
    have F := rulesGo_facts _ _ _ h
    refine ⟨fun e => h1.1 (by rw [e]; rfl), by omega, by omega, rulesGo_may _ _ _ h, fun r hr => name_of_token (rulesGo_names _ _ _ h r hr), fun n hn => ?_⟩
    obtain ⟨q, hq, rfl⟩ := List.getElem_of_mem hn
    obtain ⟨x, hx, hok⟩ := F.nodes q (Nat.zero_le _) hq
    rw [List.getElem?_eq_getElem hq] at hx
    injection hx with hx
    rw [hx]
    exact hok.fine
theorem fine_size {rs : List Rule} {n : Node} (h : fineB rs n = true) (hr : ∀ r, r ∈ rs → PName r.name) : n.name.size ≤ 4000 := by
  unfold fineB at h
  split at h
  · simp only [Bool.and_eq_true, decide_eq_true_eq] at h; rw [h.1]; decide
  split at h
  · simp only [Bool.and_eq_true, decide_eq_true_eq] at h; rw [h.1]; decide
  split at h
  · simp only [Bool.and_eq_true, decide_eq_true_eq] at h; rw [h.1]; decide
  split at h
  · simp only [Bool.and_eq_true, List.any_eq_true, decide_eq_true_eq] at h
    obtain ⟨_, r, h1, h2⟩ := h
    rw [← h2]
    exact (hr r h1).2
  split at h
  · simp only [Bool.and_eq_true] at h
    have := (quote_of_token h.2.2 (by simpa using h.2.1)).2
    omega
  · cases h
theorem right_size {t : Tree} (h : t.right = true) (n : Node) (hn : n ∈ t.nodes) : n.name.size ≤ 140737488351232 := by
  have P := right_parts h
  have := fine_size (P.fine n hn) P.names
  omega
end Go.Proofs.Ytoiejgmfgcdniaa
