import Derived.Test.YtoiejgmfgcdniaaXSb4
import Derived.Test.YtoiejgmfgcdniaaXLp4
set_option linter.unusedVariables false
set_option linter.unusedSimpArgs false
namespace Go.Proofs.Ytoiejgmfgcdniaa
open Go.RowKit Go.Proofs.YtoiejgmfgcdniaaW.PrintWords

/-! ### as many tokens as nodes; all rules parse (plain) -/
theorem interT_len (l : List (List TT)) (h : l ≠ []) : (interT l).length + 1 = l.flatten.length + l.length := by
  induction l with
  | nil => exact absurd rfl h
  | cons x xs ih =>
    cases xs with
    | nil => simp [interT]
    | cons y ys =>
      rw [interT_cons _ _ (by simp)]
      have := ih (by simp)
      simp only [List.length_append, List.length_cons, List.flatten_cons] at this ⊢
      omega
theorem Chain.count {rs : List Rule} {N : List Node} (F : TreeFacts rs N) (hP : ∀ r, r ∈ rs → PName r.name) {s e : Nat} {l : List Int} (h : Chain N s l e) : e ≤ s + (l.map (itemT N)).flatten.length ∧ e ≤ s + (l.map (altT N)).flatten.length + l.length := by
  induction h with
  | nil s => simp
  | @cons s k e l x hx h1 h2 i1 i2 =>
    have hfk := fine_kids (F.nodes _ x hx).fine
    have key : k + 1 ≤ s + (itemT N (k : Int)).length ∧ k + 1 ≤ s + (altT N (k : Int)).length + 1 := by
      by_cases h67 : x.kind = 6 ∨ x.kind = 7
      · have hkids := hfk.2.2.2 h67
        rw [hkids] at i1
        have e1 : (itemT N (k : Int)).length = 1 := by
          rw [itemT_atom hx (by omega), atomT_leaf hx h67]
          rcases h67 with h | h
          · rw [T_call F hx hP h]; rfl
          · rw [T_term F hx h]; rfl
        rw [altT_item hx (by omega), e1]
        simp at i1
        omega
      by_cases hk1 : x.kind = 1
      · have e1 : (itemT N (k : Int)).length = (T N k).length + 2 := by rw [itemT_atom hx (by omega), atomT_br hx h67]; simp
        have e2 := congrArg List.length (T_seq F hx hk1)
        rw [altT_seq hx hk1]
        omega
      by_cases hk2 : x.kind = 2
      · have e1 : (itemT N (k : Int)).length = (T N k).length + 2 := by rw [itemT_atom hx (by omega), atomT_br hx h67]; simp
        have e2 := congrArg List.length (T_alt F hx hk2)
        have hne : x.kids.map (altT N) ≠ [] := by intro e; have := hfk.1 hk2; rw [List.map_eq_nil_iff.1 e] at this; simp at this
        have e3 := interT_len _ hne
        rw [List.length_map] at e3
        rw [altT_item hx hk1]
        omega
      · have h345 : x.kind = 3 ∨ x.kind = 4 ∨ x.kind = 5 := by have := hfk.2.2.1; omega
        obtain ⟨j, hj⟩ := List.length_eq_one_iff.1 (hfk.2.1 h345)
        have hk0 := kids_below F hx j (by rw [hj]; simp)
        obtain ⟨j, rfl⟩ : ∃ n : Nat, j = n := ⟨j.toNat, by omega⟩
        obtain ⟨y, hy⟩ : ∃ y, N[j]? = some y := ⟨_, List.getElem?_eq_getElem (by omega)⟩
        have e1 : (itemT N (k : Int)).length = (atomT N (j : Int)).length + 1 := by rw [itemT_rep hx h345, T_rep F hx h345 hj]; simp
        have e2 : (itemT N (j : Int)).length ≤ (atomT N (j : Int)).length := by
          by_cases h3 : y.kind = 3 ∨ y.kind = 4 ∨ y.kind = 5
          · rw [itemT_rep hy h3, atomT_br hy (by omega)]
            simp only [List.length_cons, List.length_append]
            omega
          · rw [itemT_atom hy h3]; exact Nat.le_refl _
        rw [hj] at i1
        simp only [List.map_cons, List.map_nil, List.flatten_cons, List.flatten_nil, List.append_nil] at i1
        rw [altT_item hx hk1]
        omega
    simp only [List.map_cons, List.flatten_cons, List.length_append, List.length_cons]
    omega
/-- A rule's tokens. -/
def ruleT (N : List Node) (r : Rule) : List TT := (1, r.name) :: mt 58 :: (T N r.body.toNat ++ [mt 59])
def rulesT (N : List Node) (l : List Rule) : List TT := (l.map (ruleT N)).flatten
theorem T_count {rs : List Rule} {N : List Node} (F : TreeFacts rs N) (hP : ∀ r, r ∈ rs → PName r.name) {s b : Nat} (h : Chain N s [(b : Int)] (b + 1)) : b + 1 ≤ s + (T N b).length + 2 := by
  have hc := (h.count F hP).1
  simp only [List.map_cons, List.map_nil, List.flatten_cons, List.flatten_nil, List.append_nil] at hc
  generalize hl : [(b : Int)] = l at h
  generalize he : b + 1 = e at h
  cases h with
  | nil => cases hl
  | @cons _ k _ _ x hx h1 h2 =>
    injection hl with hk hl
    have : b = k := by omega
    subst this
    by_cases h345 : x.kind = 3 ∨ x.kind = 4 ∨ x.kind = 5
    · rw [itemT_rep hx h345] at hc; omega
    · rw [itemT_atom hx h345] at hc
      by_cases h67 : x.kind = 6 ∨ x.kind = 7
      · rw [atomT_leaf hx h67] at hc; omega
      · rw [atomT_br hx h67] at hc
        simp only [List.length_cons, List.length_append, List.length_nil] at hc
        omega
theorem RChain.count {rs : List Rule} {N : List Node} (F : TreeFacts rs N) (hP : ∀ r, r ∈ rs → PName r.name) {s : Nat} {l : List Rule} (h : RChain N s l) : N.length ≤ s + (rulesT N l).length := by
  induction h with
  | nil => exact Nat.le_add_right _ _
  | @cons s b r l h1 h2 h3 ih =>
    have := T_count F hP h2
    unfold rulesT at ih ⊢
    rw [List.map_cons, List.flatten_cons, List.length_append]
    have e : (ruleT N r).length = (T N b).length + 3 := by unfold ruleT; rw [h1, Int.toNat_natCast]; simp
    omega
theorem RChain.parse {rs : List Rule} {N : List Node} {Q : ByteArray → Prop} (F : TreeFacts rs N) (hP : ∀ r, r ∈ rs → PName r.name) (hQ : ∀ r, r ∈ rs → Q r.name) {s : Nat} {l : List Rule} (h : RChain N s l) :
    l ≠ [] → ∀ G f st rs0, N.length ≤ G → (rulesT N l).length < f → Good N Q s st → ∃ st', textL G f (rulesT N l) st rs0 = some (rs0 ++ l, st') ∧ Good N Q N.length st' := by
  have hle : ∀ {s l}, RChain N s l → s ≤ N.length := by
    intro s l h
    induction h with
    | nil => exact Nat.le_refl _
    | cons h1 h2 _ ih => have := h2.le; omega
  induction h with
  | nil => intro h; exact absurd rfl h
  | @cons s b r l h1 h2 h3 ih =>
    intro _ G f st rs0 hG hf hg
    obtain ⟨f, rfl⟩ : ∃ f', f = f' + 1 := ⟨f - 1, by omega⟩
    have hlb := hle h3
    have er : rulesT N (r :: l) = (1, r.name) :: mt 58 :: (T N b ++ (mt 59 :: rulesT N l)) := by
      unfold rulesT
      rw [List.map_cons, List.flatten_cons, ruleT, h1, Int.toNat_natCast]
      simp
    rw [er] at hf ⊢
    obtain ⟨st1, e1, g1⟩ := body_ok F hP hQ h2 G (mt 59 :: rulesT N l) st (by omega) (begL_mt 59 _) ⟨isM_mt 59 42 _, isM_mt 59 43 _, isM_mt 59 63 _⟩ (isM_mt 59 124 _) hg
    have ebr : (⟨r.name, (b : Int)⟩ : Rule) = r := by obtain ⟨n, m⟩ := r; simp only at h1 ⊢; rw [h1]
    by_cases hl : l = []
    · subst hl
      have hb : b + 1 = N.length := by
        generalize b + 1 = m at h3
        cases h3
        rfl
      rw [hb] at g1
      refine ⟨st1, ?_, g1⟩
      rw [textL]
      simp only [if_true]
      rw [if_pos (by rw [isM_mt]; decide), List.tail_cons, e1]
      simp only
      rw [if_pos (by rw [isM_mt]; decide), List.tail_cons, ebr]
      rfl
    · obtain ⟨st2, e2, g2⟩ := ih hl G f st1 (rs0 ++ [r]) hG (by simp only [List.length_cons, List.length_append] at hf; omega) g1
      refine ⟨st2, ?_, g2⟩
      have hne : (rulesT N l).isEmpty = false := by
        cases l with
        | nil => exact absurd rfl hl
        | cons r2 l2 => rfl
      rw [textL]
      simp only [if_true]
      rw [if_pos (by rw [isM_mt]; decide), List.tail_cons, e1]
      simp only
      rw [if_pos (by rw [isM_mt]; decide), List.tail_cons, hne, ebr]
      simp only [Bool.false_eq_true, if_false]
      rw [e2, List.append_assoc]
      rfl
end Go.Proofs.Ytoiejgmfgcdniaa
