import Derived.Test.YtoiejgmfgcdniaaXSb3
set_option linter.unusedVariables false
set_option linter.unusedSimpArgs false
namespace Go.Proofs.Ytoiejgmfgcdniaa
open Go.RowKit Go.Proofs.YtoiejgmfgcdniaaW.PrintWords

/-! ### a chain of nodes parses (plain) -/
theorem oneL_one (kind : Int) (n : Int) (st : PS) : oneL kind [n] st = (n, st) := by unfold oneL; rw [if_pos (show [n].length = 1 from rfl)]; rfl
theorem oneL_lay {kind : Int} {l : List Int} {st : PS} (h : l.length ≠ 1) : oneL kind l st = ((st.nodes.length : Int), st.lay ⟨kind, ⟨#[]⟩, l⟩) := by unfold oneL; rw [if_neg h]
theorem AtomOk.le {N : List Node} {Q : ByteArray → Prop} {b b' k s e : Nat} (h : AtomOk N Q b k s e) (hb : b ≤ b') : AtomOk N Q b' k s e := fun F l2 st hF hg => h F l2 st (by omega) hg
theorem ItemOk.le {N : List Node} {Q : ByteArray → Prop} {b b' k s e : Nat} (h : ItemOk N Q b k s e) (hb : b ≤ b') : ItemOk N Q b' k s e := fun F l2 st hF hm hg => h F l2 st (by omega) hm hg
section
variable {rs : List Rule} {N : List Node} {Q : ByteArray → Prop} (F : TreeFacts rs N) (hP : ∀ r, r ∈ rs → PName r.name) (hQ : ∀ r, r ∈ rs → Q r.name) {s k : Nat} {x : Node} (hx : N[k]? = some x) (hc : Chain N s x.kids k) (ih : ListOk N Q x.kids s k)
include F hP hQ hx hc ih
omit hP hQ in
theorem leaf_s (h : x.kind = 6 ∨ x.kind = 7) : s = k := by
  have hkids := (fine_kids (F.nodes _ x hx).fine).2.2.2 h
  rw [hkids] at hc
  cases hc
  rfl
/-- A node that is no seq and no alt, as an item by itself. -/
theorem small_item (h : x.kind ≠ 1 ∧ x.kind ≠ 2) : ItemOk N Q k k s (k + 1) ∧ T N k = itemT N k := by
  by_cases h3 : x.kind = 3 ∨ x.kind = 4 ∨ x.kind = 5
  · exact ⟨rep_item F hx ih h3, (itemT_rep hx h3).symm⟩
  · have h67 : x.kind = 6 ∨ x.kind = 7 := by have := (fine_kids (F.nodes _ x hx).fine).2.2.1; omega
    exact ⟨(atom_item hx h3 (leaf_atom F hP hQ hx ih h67 (leaf_s F hx hc ih h67))).le (Nat.zero_le _), by rw [itemT_atom hx h3, atomT_leaf hx h67]⟩
theorem alt_ok : AltOk N Q k s (k + 1) := by
  intro F0 l2 st hF hb hm h124 hg
  obtain ⟨F1, rfl⟩ : ∃ f, F0 = f + 1 := ⟨F0 - 1, by omega⟩
  show ∃ st', altL (altLF F1) (T N k ++ l2) st = _ ∧ _
  have hfk := fine_kids (F.nodes _ x hx).fine
  have hfn := fine_name (F.nodes _ x hx).fine
  by_cases h2 : x.kind = 2
  · have hne : x.kids ≠ [] := by intro e; have := hfk.1 h2; rw [e] at this; simp at this
    obtain ⟨st1, e1, g1⟩ := ih.alts hne F1 ((interT (x.kids.map (altT N)) ++ l2).length + 1) l2 st [] (by omega) (by omega) hb hm h124 hg
    refine ⟨st1.lay x, ?_, g1.lay hx⟩
    unfold altL
    rw [T_alt F hx h2, e1]
    simp only [List.nil_append]
    rw [oneL_lay (by have := hfk.1 h2; omega), g1.len hx, ← node_ext h2 (hfn.1 (by omega))]
  by_cases h1 : x.kind = 1
  · obtain ⟨st1, e1, g1⟩ := ih.items F1 (((x.kids.map (itemT N)).flatten ++ l2).length + 1) l2 st [] (by omega) (by omega) hb hm hg
    refine ⟨st1.lay x, ?_, g1.lay hx⟩
    unfold altL
    rw [T_seq F hx h1, altsL, e1]
    simp only [List.nil_append]
    rw [if_neg (by rw [h124]; decide), oneL_lay (hfn.2.2.1 h1), g1.len hx, ← node_ext h1 (hfn.1 (by omega))]
    simp only
    rw [oneL_one]
  · obtain ⟨hi, he⟩ := small_item F hP hQ hx hc ih ⟨h1, h2⟩
    obtain ⟨st1, e1, g1⟩ := hi F1 l2 st (by omega) hm hg
    refine ⟨st1, ?_, g1⟩
    unfold altL
    rw [he, altsL, itemsL_step (item_beg F hx hP l2).1 e1, itemsL_stop hb]
    simp only [List.nil_append]
    rw [if_neg (by rw [h124]; decide), oneL_one]
    simp only
    rw [oneL_one]
theorem atom_ok : AtomOk N Q (k + 1) k s (k + 1) := by
  by_cases h : x.kind = 6 ∨ x.kind = 7
  · exact (leaf_atom F hP hQ hx ih h (leaf_s F hx hc ih h)).le (Nat.zero_le _)
  · exact br_atom hx h (alt_ok F hP hQ hx hc ih)
theorem item_ok : ItemOk N Q (k + 1) k s (k + 1) := by
  by_cases h : x.kind = 3 ∨ x.kind = 4 ∨ x.kind = 5
  · exact (rep_item F hx ih h).le (Nat.le_succ _)
  · exact atom_item hx h (atom_ok F hP hQ hx hc ih)
theorem one_ok : OneOk N Q k s (k + 1) := by
  intro F0 f l2 st hF hf hb hm hg
  by_cases h1 : x.kind = 1
  · rw [altT_seq hx h1, T_seq F hx h1] at hf ⊢
    obtain ⟨st1, e1, g1⟩ := ih.items F0 f l2 st [] (by omega) hf hb hm hg
    refine ⟨x.kids, st1, st1.lay x, by rw [e1, List.nil_append], ?_, g1.lay hx⟩
    rw [oneL_lay ((fine_name (F.nodes _ x hx).fine).2.2.1 h1), g1.len hx, ← node_ext h1 ((fine_name (F.nodes _ x hx).fine).1 (by omega))]
  · rw [altT_item hx h1] at hf ⊢
    obtain ⟨f, rfl⟩ : ∃ f', f = f' + 1 := ⟨f - 1, by omega⟩
    obtain ⟨st1, e1, g1⟩ := item_ok F hP hQ hx hc ih F0 l2 st (by omega) hm hg
    exact ⟨[(k : Int)], st1, st1, by rw [itemsL_step (item_beg F hx hP l2).1 e1, itemsL_stop hb, List.nil_append], oneL_one _ _ _, g1⟩
end
theorem interT_cons (x : List TT) (xs : List (List TT)) (h : xs ≠ []) : interT (x :: xs) = x ++ (mt 124 :: interT xs) := by
  cases xs with
  | nil => exact absurd rfl h
  | cons y ys => simp [interT]
theorem chain_ok {rs : List Rule} {N : List Node} {Q : ByteArray → Prop} (F : TreeFacts rs N) (hP : ∀ r, r ∈ rs → PName r.name) (hQ : ∀ r, r ∈ rs → Q r.name) {s e : Nat} {l : List Int} (h : Chain N s l e) : ListOk N Q l s e := by
  induction h with
  | nil s =>
    refine ⟨fun F0 f l2 st acc hF hf hb hm hg => ⟨st, ?_, hg⟩, fun h => absurd rfl h, fun j h => by cases h⟩
    simp only [List.map_nil, List.flatten_nil, List.nil_append, List.append_nil]
    exact itemsL_stop hb
  | @cons s k e l x hx h1 h2 i1 i2 =>
    have hAt := atom_ok F hP hQ hx h1 i1
    have hIt := item_ok F hP hQ hx h1 i1
    have hOn := one_ok F hP hQ hx h1 i1
    have hle := h2.le
    refine ⟨fun F0 f l2 st acc hF hf hb hm hg => ?_, fun _ F0 f l2 st acc hF hf hb hm h124 hg => ?_, fun j hj => ?_⟩
    · obtain ⟨f, rfl⟩ : ∃ f', f = f' + 1 := ⟨f - 1, by omega⟩
      rw [List.map_cons, List.flatten_cons, List.append_assoc] at hf ⊢
      have hbg := item_beg F hx hP ((l.map (itemT N)).flatten ++ l2)
      have hmm : noMk ((l.map (itemT N)).flatten ++ l2) := by
        cases h2 with
        | nil => exact hm
        | @cons _ k2 _ l3 y hy _ _ =>
          rw [List.map_cons, List.flatten_cons, List.append_assoc]
          exact noMk_of_beg (item_beg F hy hP _).1
      obtain ⟨st1, e1, g1⟩ := hIt F0 _ st (by omega) hmm hg
      have hpos : 0 < (itemT N (k : Int)).length := List.length_pos_iff.2 hbg.2
      obtain ⟨st2, e2, g2⟩ := i2.items F0 f l2 st1 (acc ++ [(k : Int)]) hF (by rw [List.length_append] at hf; omega) hb hm g1
      exact ⟨st2, by rw [itemsL_step hbg.1 e1, e2, List.append_assoc]; rfl, g2⟩
    · obtain ⟨f, rfl⟩ : ∃ f', f = f' + 1 := ⟨f - 1, by omega⟩
      by_cases hl : l = []
      · subst hl
        cases h2
        rw [List.map_cons, List.map_nil] at hf ⊢
        have ei : interT [altT N (k : Int)] = altT N (k : Int) := by simp [interT]
        rw [ei] at hf ⊢
        obtain ⟨ks, st1, st', e1, e2, g⟩ := hOn F0 ((altT N (k : Int) ++ l2).length + 1) l2 st (by omega) (by omega) hb hm hg
        refine ⟨st', ?_, g⟩
        rw [altsL, e1]
        simp only
        rw [if_neg (by rw [h124]; decide), e2]
      · have hl2 : l.map (altT N) ≠ [] := by simpa using hl
        rw [List.map_cons, interT_cons _ _ hl2, List.append_assoc, List.cons_append] at hf ⊢
        obtain ⟨ks, st1, st', e1, e2, g⟩ := hOn F0 ((altT N (k : Int) ++ (mt 124 :: (interT (l.map (altT N)) ++ l2))).length + 1) (mt 124 :: (interT (l.map (altT N)) ++ l2)) st (by omega) (by omega) (begL_mt 124 _) ⟨isM_mt 124 42 _, isM_mt 124 43 _, isM_mt 124 63 _⟩ hg
        obtain ⟨st2, e3, g3⟩ := i2.alts hl F0 f l2 st' (acc ++ [(k : Int)]) hF (by rw [List.length_append, List.length_cons] at hf; omega) hb hm h124 g
        refine ⟨st2, ?_, g3⟩
        rw [altsL, e1]
        simp only
        rw [if_pos (by rw [isM_mt]; decide), List.tail_cons, e2]
        simp only
        rw [e3, List.append_assoc]
        rfl
    · injection hj with hj hl
      have : k = j := by omega
      subst this
      subst hl
      cases h2
      exact hAt
/-- A rule's body parses. -/
theorem body_ok {rs : List Rule} {N : List Node} {Q : ByteArray → Prop} (F : TreeFacts rs N) (hP : ∀ r, r ∈ rs → PName r.name) (hQ : ∀ r, r ∈ rs → Q r.name) {s b : Nat} (h : Chain N s [(b : Int)] (b + 1)) : AltOk N Q b s (b + 1) := by
  generalize hl : [(b : Int)] = l at h
  generalize he : b + 1 = e at h
  cases h with
  | nil => cases hl
  | @cons _ k _ _ x hx h1 h2 =>
    injection hl with hk hl
    have : b = k := by omega
    subst this
    subst hl
    rw [← he]
    exact alt_ok F hP hQ hx h1 (chain_ok F hP hQ h1)
end Go.Proofs.Ytoiejgmfgcdniaa
