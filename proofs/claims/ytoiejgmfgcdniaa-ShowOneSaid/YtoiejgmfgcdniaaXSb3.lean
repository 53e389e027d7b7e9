import Derived.Test.YtoiejgmfgcdniaaXSb2
set_option linter.unusedVariables false
set_option linter.unusedSimpArgs false
namespace Go.Proofs.Ytoiejgmfgcdniaa
open Go.RowKit Go.Proofs.YtoiejgmfgcdniaaW.PrintWords

/-! ### a node's tokens parse to it (plain) -/
section
variable (N : List Node) (Q : ByteArray → Prop)
def AltOk (k : Nat) (s e : Nat) : Prop := ∀ F l2 st, k < F → begL l2 = false → noMk l2 → isM l2 (mkB 124) = false → Good N Q s st → ∃ st', altLF F (T N k ++ l2) st = some ((k : Int), l2, st') ∧ Good N Q e st'
def AtomOk (b k : Nat) (s e : Nat) : Prop := ∀ F l2 st, b ≤ F → Good N Q s st → ∃ st', atomL (altLF F) (atomT N k ++ l2) st = some ((k : Int), l2, st') ∧ Good N Q e st'
def ItemOk (b k : Nat) (s e : Nat) : Prop := ∀ F l2 st, b ≤ F → noMk l2 → Good N Q s st → ∃ st', itemL (altLF F) (itemT N k ++ l2) st = some ((k : Int), l2, st') ∧ Good N Q e st'
def OneOk (k : Nat) (s e : Nat) : Prop := ∀ F f l2 st, k < F → (altT N k ++ l2).length < f → begL l2 = false → noMk l2 → Good N Q s st → ∃ ks st1 st', itemsL (altLF F) f (altT N k ++ l2) st [] = some (ks, l2, st1) ∧ oneL 1 ks st1 = ((k : Int), st') ∧ Good N Q e st'
def ItemsOk (l : List Int) (s e : Nat) : Prop := ∀ F f l2 st acc, e ≤ F → ((l.map (itemT N)).flatten ++ l2).length < f → begL l2 = false → noMk l2 → Good N Q s st → ∃ st', itemsL (altLF F) f ((l.map (itemT N)).flatten ++ l2) st acc = some (acc ++ l, l2, st') ∧ Good N Q e st'
def AltsOk (l : List Int) (s e : Nat) : Prop := l ≠ [] → ∀ F f l2 st acc, e ≤ F → (interT (l.map (altT N)) ++ l2).length < f → begL l2 = false → noMk l2 → isM l2 (mkB 124) = false → Good N Q s st → ∃ st', altsL (altLF F) f (interT (l.map (altT N)) ++ l2) st acc = some (acc ++ l, l2, st') ∧ Good N Q e st'
structure ListOk (l : List Int) (s e : Nat) : Prop where
  items : ItemsOk N Q l s e
  alts : AltsOk N Q l s e
  atom : ∀ j : Nat, l = [(j : Int)] → AtomOk N Q (j + 1) j s e
end
section
variable {rs : List Rule} {N : List Node} {Q : ByteArray → Prop} (F : TreeFacts rs N) (hP : ∀ r, r ∈ rs → PName r.name) (hQ : ∀ r, r ∈ rs → Q r.name) {s k : Nat} {x : Node} (hx : N[k]? = some x) (ih : ListOk N Q x.kids s k)
include F hP hQ hx ih
theorem leaf_atom (h : x.kind = 6 ∨ x.kind = 7) (hs : s = k) : AtomOk N Q 0 k s (k + 1) := by
  subst hs
  intro F0 l2 st hF hg
  have hkids := (fine_kids (F.nodes _ x hx).fine).2.2.2 h
  rw [atomT_leaf hx h]
  rcases h with h | h
  · rw [T_call F hx hP h]
    obtain ⟨r, hr, e⟩ := (fine_name (F.nodes _ x hx).fine).2.1 h
    have hxe : x = ⟨6, x.name, []⟩ := by obtain ⟨a, b, c⟩ := x; simp only at h hkids; subst h hkids; rfl
    refine ⟨(st.use x.name).lay ⟨6, x.name, []⟩, ?_, ?_⟩
    · show atomL (altLF F0) ((1, x.name) :: l2) st = _
      unfold atomL
      rw [if_neg (by rw [isM_tok (show (1 : Int) ≠ 3 by decide)]; decide)]
      simp [hg.len hx]
    · rw [← hxe]; exact (hg.use (e ▸ hQ r hr)).lay hx
  · rw [T_term F hx h]
    have hxe : x = ⟨7, x.name, []⟩ := by obtain ⟨a, b, c⟩ := x; simp only at h hkids; subst h hkids; rfl
    refine ⟨st.lay ⟨7, x.name, []⟩, ?_, ?_⟩
    · show atomL (altLF F0) ((2, x.name) :: l2) st = _
      unfold atomL
      rw [if_neg (by rw [isM_tok (show (2 : Int) ≠ 3 by decide)]; decide)]
      simp [hg.len hx]
    · rw [← hxe]; exact hg.lay hx
omit F hP hQ ih in
theorem br_atom (h : ¬ (x.kind = 6 ∨ x.kind = 7)) {e : Nat} (ha : AltOk N Q k s e) : AtomOk N Q (k + 1) k s e := by
  intro F0 l2 st hF hg
  rw [atomT_br hx h]
  obtain ⟨st', h1, h2⟩ := ha F0 (mt 41 :: l2) st hF (begL_mt 41 l2) ⟨isM_mt 41 42 l2, isM_mt 41 43 l2, isM_mt 41 63 l2⟩ (isM_mt 41 124 l2) hg
  refine ⟨st', ?_, h2⟩
  show atomL (altLF F0) (mt 40 :: ((T N k ++ [mt 41]) ++ l2)) st = _
  unfold atomL
  rw [if_pos (by rw [isM_mt]; decide)]
  rw [List.tail_cons, List.append_assoc, List.singleton_append, h1]
  simp only
  rw [if_pos (by rw [isM_mt]; decide), List.tail_cons]
omit hP hQ in
theorem rep_item (h : x.kind = 3 ∨ x.kind = 4 ∨ x.kind = 5) : ItemOk N Q k k s (k + 1) := by
  intro F0 l2 st hF hm hg
  obtain ⟨j, hj⟩ := List.length_eq_one_iff.1 ((fine_kids (F.nodes _ x hx).fine).2.1 h)
  have hk0 := kids_below F hx j (by rw [hj]; simp)
  obtain ⟨j, rfl⟩ : ∃ n : Nat, j = n := ⟨j.toNat, by omega⟩
  have hnm := (fine_name (F.nodes _ x hx).fine).1 (by omega)
  obtain ⟨st1, h1, h2⟩ := ih.atom j hj F0 ([toT (mkOf x.kind)] ++ l2) st (by omega) hg
  rw [itemT_rep hx h, T_rep F hx h hj, List.append_assoc]
  have hl := h2.len hx
  rcases h with h | h | h
  · have hxe := node_ext h hnm
    rw [hj] at hxe
    refine ⟨st1.lay x, ?_, h2.lay hx⟩
    unfold itemL
    rw [h1]
    simp only
    have e : [toT (mkOf x.kind)] ++ l2 = mt 42 :: l2 := by rw [h]; rfl
    rw [e, if_pos (by rw [isM_mt]; decide), List.tail_cons, hl, ← hxe]
  · have hxe := node_ext h hnm
    rw [hj] at hxe
    refine ⟨st1.lay x, ?_, h2.lay hx⟩
    unfold itemL
    rw [h1]
    simp only
    have e : [toT (mkOf x.kind)] ++ l2 = mt 43 :: l2 := by rw [h]; rfl
    rw [e, if_neg (by rw [isM_mt]; decide), if_pos (by rw [isM_mt]; decide), List.tail_cons, hl, ← hxe]
  · have hxe := node_ext h hnm
    rw [hj] at hxe
    refine ⟨st1.lay x, ?_, h2.lay hx⟩
    unfold itemL
    rw [h1]
    simp only
    have e : [toT (mkOf x.kind)] ++ l2 = mt 63 :: l2 := by rw [h]; rfl
    rw [e, if_neg (by rw [isM_mt]; decide), if_neg (by rw [isM_mt]; decide), if_pos (by rw [isM_mt]; decide), List.tail_cons, hl, ← hxe]
omit F hP hQ ih in
theorem atom_item (h : ¬ (x.kind = 3 ∨ x.kind = 4 ∨ x.kind = 5)) {e b : Nat} (ha : AtomOk N Q b k s e) : ItemOk N Q b k s e := by
  intro F0 l2 st hF hm hg
  rw [itemT_atom hx h]
  obtain ⟨st', h1, h2⟩ := ha F0 l2 st hF hg
  refine ⟨st', ?_, h2⟩
  unfold itemL
  rw [h1]
  simp only
  rw [if_neg (by rw [hm.1]; decide), if_neg (by rw [hm.2.1]; decide), if_neg (by rw [hm.2.2]; decide)]
end
theorem itemsL_stop {al : List TT → PS → LP} {f : Nat} {l : List TT} {st : PS} {acc : List Int} (h : begL l = false) : itemsL al f l st acc = some (acc, l, st) := by
  cases f with
  | zero => rfl
  | succ f => rw [itemsL, h]; rfl
theorem itemsL_step {al : List TT → PS → LP} {f : Nat} {l l1 : List TT} {st st1 : PS} {acc : List Int} {n : Int} (h : begL l = true) (hi : itemL al l st = some (n, l1, st1)) : itemsL al (f + 1) l st acc = itemsL al f l1 st1 (acc ++ [n]) := by
  rw [itemsL, if_pos h, hi]
section
variable {rs : List Rule} {N : List Node} {Q : ByteArray → Prop} (F : TreeFacts rs N) (hP : ∀ r, r ∈ rs → PName r.name) {s k : Nat} {x : Node} (hx : N[k]? = some x)
include F hx
theorem item_beg_leaf (hP : ∀ r, r ∈ rs → PName r.name) (h : x.kind = 6 ∨ x.kind = 7) (l2 : List TT) : begL (atomT N k ++ l2) = true ∧ atomT N k ≠ [] := by
  rw [atomT_leaf hx h]
  rcases h with h | h
  · rw [T_call F hx hP h]; exact ⟨begL_tok (show (1 : Int) ≠ 3 by decide) _, by simp⟩
  · rw [T_term F hx h]; exact ⟨begL_tok (show (2 : Int) ≠ 3 by decide) _, by simp⟩
theorem atom_beg (hP : ∀ r, r ∈ rs → PName r.name) (l2 : List TT) : begL (atomT N k ++ l2) = true ∧ atomT N k ≠ [] := by
  by_cases h : x.kind = 6 ∨ x.kind = 7
  · exact item_beg_leaf F hx hP h l2
  · rw [atomT_br hx h]; exact ⟨by rw [List.cons_append, begL_mt]; decide, by simp⟩
theorem item_beg (hP : ∀ r, r ∈ rs → PName r.name) (l2 : List TT) : begL (itemT N k ++ l2) = true ∧ itemT N k ≠ [] := by
  by_cases h : x.kind = 3 ∨ x.kind = 4 ∨ x.kind = 5
  · obtain ⟨j, hj⟩ := List.length_eq_one_iff.1 ((fine_kids (F.nodes _ x hx).fine).2.1 h)
    have hk0 := kids_below F hx j (by rw [hj]; simp)
    obtain ⟨j, rfl⟩ : ∃ n : Nat, j = n := ⟨j.toNat, by omega⟩
    obtain ⟨y, hy⟩ : ∃ y, N[j]? = some y := ⟨_, List.getElem?_eq_getElem (by omega)⟩
    rw [itemT_rep hx h, T_rep F hx h hj, List.append_assoc]
    have := atom_beg F hy hP ([toT (mkOf x.kind)] ++ l2)
    exact ⟨this.1, by simp⟩
  · rw [itemT_atom hx h]; exact atom_beg F hx hP l2
end
end Go.Proofs.Ytoiejgmfgcdniaa
