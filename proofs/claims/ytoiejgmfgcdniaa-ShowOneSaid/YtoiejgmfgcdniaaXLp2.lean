import Derived.Test.YtoiejgmfgcdniaaXLp1
set_option linter.unusedVariables false
set_option linter.unusedSimpArgs false
namespace Go.Proofs.Ytoiejgmfgcdniaa
open Go.RowKit Go.Proofs.YtoiejgmfgcdniaaW.PrintWords

/-! ### the nodes that a parse lays, as a run of a stack (plain) -/
def stk : Nat → List Int → List Node → Option (List Int)
  | _, o, [] => some o
  | pos, o, x :: xs => if o.length < x.kids.length then none else if o.drop (o.length - x.kids.length) = x.kids then stk (pos + 1) (o.take (o.length - x.kids.length) ++ [(pos : Int)]) xs else none
theorem stk_append : ∀ (xs : List Node) (pos : Nat) (o o1 : List Int) (ys : List Node), stk pos o xs = some o1 → stk pos o (xs ++ ys) = stk (pos + xs.length) o1 ys := by
  intro xs
  induction xs with
  | nil => intro pos o o1 ys h; simp only [stk, Option.some.injEq] at h; subst h; rfl
  | cons x xs ih =>
    intro pos o o1 ys h
    rw [stk] at h
    rw [List.cons_append, stk]
    split at h
    · cases h
    · rename_i h1
      rw [if_neg h1]
      split at h
      · rename_i h2
        rw [if_pos h2, ih _ _ _ ys h, List.length_cons, show pos + 1 + xs.length = pos + (xs.length + 1) by omega]
      · cases h
theorem stk_one (pos : Nat) (o kids : List Int) (kind : Int) (nm : ByteArray) : stk pos (o ++ kids) [⟨kind, nm, kids⟩] = some (o ++ [(pos : Int)]) := by
  rw [stk, if_neg (by simp), if_pos (by simp), stk]
  simp
theorem stk_two {pos : Nat} {o m : List Int} {xs : List Node} (h : stk pos o xs = some (o ++ m)) (kind : Int) (nm : ByteArray) : stk pos o (xs ++ [⟨kind, nm, m⟩]) = some (o ++ [((pos + xs.length : Nat) : Int)]) := by
  rw [stk_append _ _ _ _ _ h, stk_one]
def ShapeN (us : List ByteArray) (Q : ByteArray → Prop) (x : Node) : Prop :=
  (x.kind = 1 ∧ x.name = ⟨#[]⟩ ∧ x.kids.length ≠ 1) ∨ (x.kind = 2 ∧ x.name = ⟨#[]⟩ ∧ 1 < x.kids.length) ∨ ((x.kind = 3 ∨ x.kind = 4 ∨ x.kind = 5) ∧ x.name = ⟨#[]⟩ ∧ x.kids.length = 1) ∨
    (x.kind = 6 ∧ x.kids = [] ∧ x.name ∈ us) ∨ (x.kind = 7 ∧ x.kids = [] ∧ Q x.name)
theorem ShapeN.mono {us vs : List ByteArray} {Q : ByteArray → Prop} {x : Node} (h : ShapeN us Q x) (hu : ∀ u, u ∈ us → u ∈ vs) : ShapeN vs Q x := by
  rcases h with h | h | h | ⟨h1, h2, h3⟩ | h
  · exact .inl h
  · exact .inr (.inl h)
  · exact .inr (.inr (.inl h))
  · exact .inr (.inr (.inr (.inl ⟨h1, h2, hu _ h3⟩)))
  · exact .inr (.inr (.inr (.inr h)))
/-- From st to st1, with m more on the stack, and l1 of l left. -/
structure Ran (Q : ByteArray → Prop) (l : List TT) (st : PS) (m : List Int) (l1 : List TT) (st1 : PS) : Prop where
  suf : l1 <:+ l
  run : ∃ xs us, st1.nodes = st.nodes ++ xs ∧ st1.used = st.used ++ us ∧ (∀ o, stk st.nodes.length o xs = some (o ++ m)) ∧ ∀ x, x ∈ xs → ShapeN us Q x
section
variable {Q : ByteArray → Prop} {l l1 l2 : List TT} {st st1 st2 : PS} {m m1 m2 : List Int} {n : Int}
theorem Ran.refl (Q : ByteArray → Prop) (l : List TT) (st : PS) : Ran Q l st [] l st := ⟨List.suffix_refl _, [], [], by simp, by simp, fun o => by simp [stk], by simp⟩
theorem Ran.trans (h : Ran Q l st m1 l1 st1) (k : Ran Q l1 st1 m2 l2 st2) : Ran Q l st (m1 ++ m2) l2 st2 := by
  obtain ⟨s1, xs, us, e1, e2, e3, e4⟩ := h
  obtain ⟨s2, ys, vs, f1, f2, f3, f4⟩ := k
  refine ⟨s2.trans s1, xs ++ ys, us ++ vs, by rw [f1, e1, List.append_assoc], by rw [f2, e2, List.append_assoc], fun o => ?_, fun x hx => ?_⟩
  · rw [stk_append _ _ _ _ _ (e3 o), ← List.length_append, ← e1, f3, List.append_assoc]
  · rcases List.mem_append.1 hx with hx | hx
    · exact (e4 x hx).mono (fun u hu => List.mem_append_left _ hu)
    · exact (f4 x hx).mono (fun u hu => List.mem_append_right _ hu)
/-- All m become the kids of one node. -/
theorem Ran.node (h : Ran Q l st m l1 st1) (kind : Int) (hs : ∀ us, ShapeN us Q ⟨kind, ⟨#[]⟩, m⟩) : Ran Q l st [(st1.nodes.length : Int)] l1 (st1.lay ⟨kind, ⟨#[]⟩, m⟩) := by
  obtain ⟨s1, xs, us, e1, e2, e3, e4⟩ := h
  refine ⟨s1, xs ++ [⟨kind, ⟨#[]⟩, m⟩], us, by show st1.nodes ++ _ = _; rw [e1, List.append_assoc], e2, fun o => ?_, fun x hx => ?_⟩
  · rw [stk_two (e3 o), e1, List.length_append]
  · rcases List.mem_append.1 hx with hx | hx
    · exact e4 x hx
    · rw [List.mem_singleton.1 hx]; exact hs us
theorem Ran.suf_tail (h : Ran Q l st m l1 st1) : Ran Q l st m l1.tail st1 := ⟨(List.tail_suffix _).trans h.suf, h.run⟩
theorem Ran.of_tail (h : Ran Q l.tail st m l1 st1) : Ran Q l st m l1 st1 := ⟨h.suf.trans (List.tail_suffix _), h.run⟩
theorem Ran.one (h : Ran Q l st m l1 st1) : Ran Q l st [(oneL 1 m st1).1] l1 (oneL 1 m st1).2 := by
  unfold oneL
  split
  · rename_i h1
    obtain ⟨z, rfl⟩ := List.length_eq_one_iff.1 h1
    exact h
  · rename_i h1
    exact h.node 1 (fun us => .inl ⟨rfl, rfl, h1⟩)
theorem Ran.alts (h : Ran Q l st m l1 st1) (hm : m ≠ []) : Ran Q l st [(oneL 2 m st1).1] l1 (oneL 2 m st1).2 := by
  unfold oneL
  split
  · rename_i h1
    obtain ⟨z, rfl⟩ := List.length_eq_one_iff.1 h1
    exact h
  · rename_i h1
    have : 0 < m.length := List.length_pos_iff.2 hm
    exact h.node 2 (fun us => .inr (.inl ⟨rfl, rfl, by show 1 < m.length; omega⟩))
end
def TQ (Q : ByteArray → Prop) (l : List TT) : Prop := ∀ t, t ∈ l → t.1 = 2 → Q t.2
theorem TQ.suf {Q : ByteArray → Prop} {l l1 : List TT} (h : TQ Q l) (hs : l1 <:+ l) : TQ Q l1 := fun t ht => h t (hs.subset ht)
def RunOk (Q : ByteArray → Prop) (al : List TT → PS → LP) : Prop := ∀ l st n l1 st1, TQ Q l → al l st = some (n, l1, st1) → Ran Q l st [n] l1 st1
section
variable {Q : ByteArray → Prop} {al : List TT → PS → LP}
theorem atom_run (h : RunOk Q al) {l l1 : List TT} {st st1 : PS} {n : Int} (hq : TQ Q l) (he : atomL al l st = some (n, l1, st1)) : Ran Q l st [n] l1 st1 := by
  unfold atomL at he
  split at he
  · cases ha : al l.tail st with
    | none => rw [ha] at he; cases he
    | some r =>
      obtain ⟨k, l2, st2⟩ := r
      rw [ha] at he
      simp only at he
      have h1 := (h _ _ _ _ _ (hq.suf (List.tail_suffix _)) ha).of_tail
      split at he
      · simp only [Option.some.injEq, Prod.mk.injEq] at he
        obtain ⟨rfl, rfl, rfl⟩ := he
        exact h1.suf_tail
      · cases he
  · cases l with
    | nil => cases he
    | cons x r =>
      simp only at he
      split at he
      · rename_i h2
        simp only [Option.some.injEq, Prod.mk.injEq] at he
        obtain ⟨rfl, rfl, rfl⟩ := he
        refine ⟨List.suffix_cons _ _, [⟨7, x.2, []⟩], [], rfl, by simp [PS.lay], fun o => ?_, fun y hy => ?_⟩
        · have := stk_one st.nodes.length o [] 7 x.2
          rwa [List.append_nil] at this
        · rw [List.mem_singleton.1 hy]; exact .inr (.inr (.inr (.inr ⟨rfl, rfl, hq x (by simp) h2⟩)))
      · split at he
        · simp only [Option.some.injEq, Prod.mk.injEq] at he
          obtain ⟨rfl, rfl, rfl⟩ := he
          refine ⟨List.suffix_cons _ _, [⟨6, x.2, []⟩], [x.2], rfl, rfl, fun o => ?_, fun y hy => ?_⟩
          · have := stk_one st.nodes.length o [] 6 x.2
            rwa [List.append_nil] at this
          · rw [List.mem_singleton.1 hy]; exact .inr (.inr (.inr (.inl ⟨rfl, rfl, by simp⟩)))
        · cases he
theorem item_run (h : RunOk Q al) {l l1 : List TT} {st st1 : PS} {n : Int} (hq : TQ Q l) (he : itemL al l st = some (n, l1, st1)) : Ran Q l st [n] l1 st1 := by
  unfold itemL at he
  cases ha : atomL al l st with
  | none => rw [ha] at he; cases he
  | some r =>
    obtain ⟨k, l2, st2⟩ := r
    rw [ha] at he
    simp only at he
    have h1 := atom_run h hq ha
    split at he
    · simp only [Option.some.injEq, Prod.mk.injEq] at he
      obtain ⟨rfl, rfl, rfl⟩ := he
      exact (h1.node 3 (fun us => .inr (.inr (.inl ⟨.inl rfl, rfl, rfl⟩)))).suf_tail
    split at he
    · simp only [Option.some.injEq, Prod.mk.injEq] at he
      obtain ⟨rfl, rfl, rfl⟩ := he
      exact (h1.node 4 (fun us => .inr (.inr (.inl ⟨.inr (.inl rfl), rfl, rfl⟩)))).suf_tail
    split at he
    · simp only [Option.some.injEq, Prod.mk.injEq] at he
      obtain ⟨rfl, rfl, rfl⟩ := he
      exact (h1.node 5 (fun us => .inr (.inr (.inl ⟨.inr (.inr rfl), rfl, rfl⟩)))).suf_tail
    · simp only [Option.some.injEq, Prod.mk.injEq] at he
      obtain ⟨rfl, rfl, rfl⟩ := he
      exact h1
theorem items_run (h : RunOk Q al) : ∀ (f : Nat) (l l1 : List TT) (st st1 : PS) (acc m : List Int), TQ Q l → itemsL al f l st acc = some (m, l1, st1) → ∃ k, m = acc ++ k ∧ Ran Q l st k l1 st1 := by
  intro f
  induction f with
  | zero => intro l l1 st st1 acc m hq he; simp only [itemsL, Option.some.injEq, Prod.mk.injEq] at he; obtain ⟨rfl, rfl, rfl⟩ := he; exact ⟨[], by simp, Ran.refl _ _ _⟩
  | succ f ih =>
    intro l l1 st st1 acc m hq he
    rw [itemsL] at he
    split at he
    · cases hi : itemL al l st with
      | none => rw [hi] at he; cases he
      | some r =>
        obtain ⟨n, l2, st2⟩ := r
        rw [hi] at he
        have h1 := item_run h hq hi
        obtain ⟨k, rfl, h2⟩ := ih _ _ _ _ _ _ (hq.suf h1.suf) he
        exact ⟨n :: k, by simp, h1.trans h2⟩
    · simp only [Option.some.injEq, Prod.mk.injEq] at he; obtain ⟨rfl, rfl, rfl⟩ := he; exact ⟨[], by simp, Ran.refl _ _ _⟩
theorem alts_run (h : RunOk Q al) : ∀ (f : Nat) (l l1 : List TT) (st st1 : PS) (acc m : List Int), TQ Q l → altsL al f l st acc = some (m, l1, st1) → ∃ k, m = acc ++ k ∧ Ran Q l st k l1 st1 ∧ (0 < f → k ≠ []) := by
  intro f
  induction f with
  | zero => intro l l1 st st1 acc m hq he; simp only [altsL, Option.some.injEq, Prod.mk.injEq] at he; obtain ⟨rfl, rfl, rfl⟩ := he; exact ⟨[], by simp, Ran.refl _ _ _, by omega⟩
  | succ f ih =>
    intro l l1 st st1 acc m hq he
    rw [altsL] at he
    cases hi : itemsL al (l.length + 1) l st [] with
    | none => rw [hi] at he; cases he
    | some r =>
      obtain ⟨q, l2, st2⟩ := r
      rw [hi] at he
      simp only at he
      obtain ⟨k, e, h1⟩ := items_run h _ _ _ _ _ _ _ hq hi
      rw [List.nil_append] at e
      subst e
      have h2 := h1.one
      split at he
      · obtain ⟨k2, rfl, h3, _⟩ := ih _ _ _ _ _ _ (hq.suf ((List.tail_suffix _).trans h1.suf)) he
        exact ⟨(oneL 1 q st2).1 :: k2, by simp, h2.suf_tail.trans h3, by simp⟩
      · simp only [Option.some.injEq, Prod.mk.injEq] at he
        obtain ⟨rfl, rfl, rfl⟩ := he
        exact ⟨[(oneL 1 q st2).1], by simp, h2, by simp⟩
theorem alt_run (h : RunOk Q al) : RunOk Q (altL al) := by
  intro l st n l1 st1 hq he
  unfold altL at he
  cases hi : altsL al (l.length + 1) l st [] with
  | none => rw [hi] at he; cases he
  | some r =>
    obtain ⟨q, l2, st2⟩ := r
    rw [hi] at he
    simp only [Option.some.injEq, Prod.mk.injEq] at he
    obtain ⟨rfl, rfl, rfl⟩ := he
    obtain ⟨k, e, h1, h2⟩ := alts_run h _ _ _ _ _ _ _ hq hi
    rw [List.nil_append] at e
    subst e
    exact h1.alts (h2 (by omega))
theorem altLF_run (Q : ByteArray → Prop) : ∀ f, RunOk Q (altLF f) := by
  intro f
  induction f with
  | zero => intro l st n l1 st1 _ he; cases he
  | succ f ih => exact alt_run ih
end
end Go.Proofs.Ytoiejgmfgcdniaa
