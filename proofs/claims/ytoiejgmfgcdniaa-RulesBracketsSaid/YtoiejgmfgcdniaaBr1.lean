import Derived.Test.YtoiejgmfgcdniaaLp5
set_option linter.unusedVariables false
set_option linter.unusedSimpArgs false
namespace Go.Proofs.Ytoiejgmfgcdniaa
open Go.RowKit Go.Proofs.YtoiejgmfgcdniaaW.PrintWords

/-! ### brackets that change nothing (plain) -/
def Wt : Bool → List TT → List TT
  | _, [] => []
  | b, x :: l =>
    if x.1 = 3 ∧ x.2 = mkB 58 then (3, mkB 58) :: (3, mkB 40) :: Wt true l
    else if x.1 = 3 ∧ x.2 = mkB 59 then (3, mkB 41) :: (3, mkB 59) :: Wt false l
    else if x.1 ≠ 3 ∧ b = true then (3, mkB 40) :: x :: (3, mkB 41) :: Wt b l
    else x :: Wt b l
theorem mkB_inj {a b : UInt8} (h : mkB a = mkB b) : a = b := by
  unfold mkB at h
  injection h with h
  have := congrArg Array.toList h
  simpa using this
theorem isM_cons {x : TT} {r : List TT} {m : ByteArray} : isM (x :: r) m = (decide (x.1 = 3) && decide (x.2 = m)) := rfl
theorem isM_some {l : List TT} {m : ByteArray} (h : isM l m = true) : ∃ r, l = (3, m) :: r := by
  cases l with
  | nil => cases h
  | cons x r =>
    rw [isM_cons] at h
    simp only [Bool.and_eq_true, decide_eq_true_eq] at h
    obtain ⟨a, b⟩ := x
    simp only at h
    obtain ⟨rfl, rfl⟩ := h
    exact ⟨r, rfl⟩
theorem Wt_mark {c : UInt8} (h1 : c ≠ 58) (h2 : c ≠ 59) (b : Bool) (r : List TT) : Wt b ((3, mkB c) :: r) = (3, mkB c) :: Wt b r := by
  rw [Wt, if_neg (fun h => h1 (mkB_inj h.2)), if_neg (fun h => h2 (mkB_inj h.2)), if_neg (fun h => h.1 rfl)]
theorem Wt_word {x : TT} (h : x.1 ≠ 3) (r : List TT) : Wt true (x :: r) = (3, mkB 40) :: x :: (3, mkB 41) :: Wt true r := by
  rw [Wt, if_neg (fun h' => h h'.1), if_neg (fun h' => h h'.1), if_pos ⟨h, rfl⟩]
theorem isM_Wt {l : List TT} {c : UInt8} (h1 : c ≠ 58) (h2 : c ≠ 59) (h : isM l (mkB c) = true) : isM (Wt true l) (mkB c) = true ∧ (Wt true l).tail = Wt true l.tail := by
  obtain ⟨r, rfl⟩ := isM_some h
  rw [Wt_mark h1 h2]
  exact ⟨by rw [isM_cons]; simp, rfl⟩
theorem mk_ne {a b : UInt8} (h : a ≠ b) : decide (mkB a = mkB b) = false := decide_eq_false (fun e => h (mkB_inj e))
theorem isM_Wt_no {l : List TT} {c : UInt8} (h1 : c ≠ 58) (h2 : c ≠ 40) (h3 : c ≠ 41) (h : isM l (mkB c) = false) : isM (Wt true l) (mkB c) = false := by
  cases l with
  | nil => rfl
  | cons x r =>
    rw [Wt]
    split
    · rw [isM_cons]; simp only [mk_ne (Ne.symm h1), Bool.and_false]
    split
    · rw [isM_cons]; simp only [mk_ne (Ne.symm h3), Bool.and_false]
    split
    · rw [isM_cons]; simp only [mk_ne (Ne.symm h2), Bool.and_false]
    · rw [isM_cons] at h ⊢; exact h
theorem begL_Wt (l : List TT) : begL (Wt true l) = begL l := by
  cases l with
  | nil => rfl
  | cons x r =>
    rw [Wt]
    split
    · rename_i h
      unfold begL
      rw [isM_cons, isM_cons]
      simp only [h.1, h.2]
    split
    · rename_i h
      unfold begL
      rw [isM_cons, isM_cons]
      simp only [h.1, h.2, mk_ne (show (41 : UInt8) ≠ 40 by decide), mk_ne (show (59 : UInt8) ≠ 40 by decide)]
    split
    · rename_i h
      unfold begL
      rw [isM_cons, isM_cons]
      simp [h.1]
    · unfold begL
      rw [isM_cons, isM_cons]
theorem item_plain {al : List TT → PS → LP} {l l1 : List TT} {st st1 : PS} {n : Int} (ha : atomL al l st = some (n, l1, st1)) (h1 : isM l1 (mkB 42) = false) (h2 : isM l1 (mkB 43) = false) (h3 : isM l1 (mkB 63) = false) : itemL al l st = some (n, l1, st1) := by
  unfold itemL
  rw [ha]
  simp only [h1, h2, h3, Bool.false_eq_true, if_false]
theorem alt_single {al : List TT → PS → LP} {l l1 : List TT} {st st1 : PS} {n : Int} (hb : begL l = true) (hi : itemL al l st = some (n, l1, st1)) (h1 : begL l1 = false) (h2 : isM l1 (mkB 124) = false) : altL al l st = some (n, l1, st1) := by
  have hl : 0 < l.length := by cases l with | nil => cases hb | cons a b => simp
  obtain ⟨m, hm⟩ : ∃ m, l.length = m + 1 := ⟨l.length - 1, by omega⟩
  have e1 : itemsL al (l.length + 1) l st [] = some ([n], l1, st1) := by
    rw [itemsL, if_pos hb, hi]
    simp only
    rw [hm, itemsL, if_neg (by rw [h1]; decide)]
    rfl
  unfold altL
  rw [altsL, e1]
  simp only [h2, Bool.false_eq_true, if_false]
  rfl
theorem close_no (r : List TT) : begL ((3, mkB 41) :: r) = false ∧ isM ((3, mkB 41) :: r) (mkB 124) = false ∧ isM ((3, mkB 41) :: r) (mkB 42) = false ∧ isM ((3, mkB 41) :: r) (mkB 43) = false ∧ isM ((3, mkB 41) :: r) (mkB 63) = false ∧ isM ((3, mkB 41) :: r) (mkB 41) = true := by
  refine ⟨?_, ?_, ?_, ?_, ?_, ?_⟩
  · unfold begL; rw [isM_cons]; simp only [mk_ne (show (41 : UInt8) ≠ 40 by decide)]; rfl
  · rw [isM_cons]; simp only [mk_ne (show (41 : UInt8) ≠ 124 by decide)]; rfl
  · rw [isM_cons]; simp only [mk_ne (show (41 : UInt8) ≠ 42 by decide)]; rfl
  · rw [isM_cons]; simp only [mk_ne (show (41 : UInt8) ≠ 43 by decide)]; rfl
  · rw [isM_cons]; simp only [mk_ne (show (41 : UInt8) ≠ 63 by decide)]; rfl
  · rw [isM_cons]; simp
theorem semi_no (r : List TT) : begL ((3, mkB 59) :: r) = false ∧ isM ((3, mkB 59) :: r) (mkB 124) = false ∧ isM ((3, mkB 59) :: r) (mkB 42) = false ∧ isM ((3, mkB 59) :: r) (mkB 43) = false ∧ isM ((3, mkB 59) :: r) (mkB 63) = false ∧ isM ((3, mkB 59) :: r) (mkB 59) = true := by
  refine ⟨?_, ?_, ?_, ?_, ?_, ?_⟩
  · unfold begL; rw [isM_cons]; simp only [mk_ne (show (59 : UInt8) ≠ 40 by decide)]; rfl
  · rw [isM_cons]; simp only [mk_ne (show (59 : UInt8) ≠ 124 by decide)]; rfl
  · rw [isM_cons]; simp only [mk_ne (show (59 : UInt8) ≠ 42 by decide)]; rfl
  · rw [isM_cons]; simp only [mk_ne (show (59 : UInt8) ≠ 43 by decide)]; rfl
  · rw [isM_cons]; simp only [mk_ne (show (59 : UInt8) ≠ 63 by decide)]; rfl
  · rw [isM_cons]; simp
theorem open_is (r : List TT) : isM ((3, mkB 40) :: r) (mkB 40) = true ∧ begL ((3, mkB 40) :: r) = true := by
  refine ⟨by rw [isM_cons]; simp, ?_⟩
  unfold begL; rw [isM_cons]; simp
theorem word_not {x : TT} (h : x.1 ≠ 3) (r : List TT) : isM (x :: r) (mkB 40) = false ∧ begL (x :: r) = true := by
  refine ⟨by rw [isM_cons, decide_eq_false h]; rfl, ?_⟩
  unfold begL; simp [h]
/-- What stands in brackets is taken as an atom. -/
theorem atom_brackets {al : List TT → PS → LP} {l r : List TT} {st st1 : PS} {n : Int} (h : al l st = some (n, (3, mkB 41) :: r, st1)) : atomL al ((3, mkB 40) :: l) st = some (n, r, st1) := by
  unfold atomL
  rw [if_pos (open_is l).1]
  simp only [List.tail_cons]
  rw [h]
  simp only [(close_no r).2.2.2.2.2, if_true, List.tail_cons]
def Sim (al al' : List TT → PS → LP) : Prop := ∀ l st n l1 st1, al l st = some (n, l1, st1) → al' (Wt true l) st = some (n, Wt true l1, st1)
section
variable {al a : List TT → PS → LP}
theorem atom_sim (h : Sim al (altL a)) {l l1 : List TT} {st st1 : PS} {n : Int} (e : atomL al l st = some (n, l1, st1)) : atomL (altL a) (Wt true l) st = some (n, Wt true l1, st1) := by
  unfold atomL at e
  split at e
  · rename_i hm
    obtain ⟨r, rfl⟩ := isM_some hm
    rw [Wt_mark (by decide) (by decide)]
    simp only [List.tail_cons] at e
    cases ha : al r st with
    | none => rw [ha] at e; cases e
    | some q =>
      obtain ⟨k, l2, st2⟩ := q
      rw [ha] at e
      simp only at e
      split at e
      · rename_i hm2
        obtain ⟨r2, rfl⟩ := isM_some hm2
        cases e
        have h1 := h _ _ _ _ _ ha
        rw [Wt_mark (by decide) (by decide)] at h1
        exact atom_brackets h1
      · cases e
  · cases l with
    | nil => cases e
    | cons x r =>
      simp only at e
      have key : ∀ st', x.1 ≠ 3 → (∀ r', atomL a (x :: r') st = some (n, r', st')) → atomL (altL a) (Wt true (x :: r)) st = some (n, Wt true r, st') := fun st' h3 hat => by
        rw [Wt_word h3]
        obtain ⟨c1, c2, c3, c4, c5, _⟩ := close_no (Wt true r)
        exact atom_brackets (alt_single (word_not h3 _).2 (item_plain (hat _) c3 c4 c5) c1 c2)
      split at e
      · rename_i h2
        cases e
        refine key _ (by omega) (fun r' => ?_)
        unfold atomL
        rw [if_neg (by rw [(word_not (x := x) (by omega) r').1]; decide)]
        simp only [if_pos h2]
      split at e
      · rename_i h2 h1
        cases e
        refine key _ (by omega) (fun r' => ?_)
        unfold atomL
        rw [if_neg (by rw [(word_not (x := x) (by omega) r').1]; decide)]
        simp only [if_neg h2, if_pos h1]
      · cases e
theorem item_sim (h : Sim al (altL a)) {l l1 : List TT} {st st1 : PS} {n : Int} (e : itemL al l st = some (n, l1, st1)) : itemL (altL a) (Wt true l) st = some (n, Wt true l1, st1) := by
  unfold itemL at e ⊢
  cases ha : atomL al l st with
  | none => rw [ha] at e; cases e
  | some q =>
    obtain ⟨k, l2, st2⟩ := q
    rw [ha] at e
    rw [atom_sim h ha]
    simp only at e ⊢
    cases h1 : isM l2 (mkB 42) with
    | true =>
      obtain ⟨i1, i2⟩ := isM_Wt (by decide) (by decide) h1
      rw [h1] at e
      simp only [i1, if_true] at e ⊢
      cases e
      rw [i2]
    | false =>
      rw [h1] at e
      simp only [isM_Wt_no (c := 42) (by decide) (by decide) (by decide) h1, Bool.false_eq_true, if_false] at e ⊢
      cases h2 : isM l2 (mkB 43) with
      | true =>
        obtain ⟨i1, i2⟩ := isM_Wt (by decide) (by decide) h2
        rw [h2] at e
        simp only [i1, if_true] at e ⊢
        cases e
        rw [i2]
      | false =>
        rw [h2] at e
        simp only [isM_Wt_no (c := 43) (by decide) (by decide) (by decide) h2, Bool.false_eq_true, if_false] at e ⊢
        cases h3 : isM l2 (mkB 63) with
        | true =>
          obtain ⟨i1, i2⟩ := isM_Wt (by decide) (by decide) h3
          rw [h3] at e
          simp only [i1, if_true] at e ⊢
          cases e
          rw [i2]
        | false =>
          rw [h3] at e
          simp only [isM_Wt_no (c := 63) (by decide) (by decide) (by decide) h3, Bool.false_eq_true, if_false] at e ⊢
          cases e
          rfl
theorem items_sim (h : Sim al (altL a)) (hs : Shr al) (hs' : Shr (altL a)) : ∀ (f f' : Nat) (l l1 : List TT) (st st1 : PS) (acc m : List Int), l.length < f → (Wt true l).length < f' → itemsL al f l st acc = some (m, l1, st1) → itemsL (altL a) f' (Wt true l) st acc = some (m, Wt true l1, st1) := by
  intro f
  induction f with
  | zero => intro f' l l1 st st1 acc m hf; omega
  | succ f ih =>
    intro f' l l1 st st1 acc m hf hf' e
    obtain ⟨f', rfl⟩ : ∃ k, f' = k + 1 := ⟨f' - 1, by omega⟩
    rw [itemsL] at e ⊢
    rw [begL_Wt]
    cases hb : begL l with
    | false => rw [hb] at e; simp only [Bool.false_eq_true, if_false] at e ⊢; cases e; rfl
    | true =>
      rw [hb] at e
      simp only [if_true] at e ⊢
      cases hi : itemL al l st with
      | none => rw [hi] at e; cases e
      | some q =>
        obtain ⟨n, l2, st2⟩ := q
        rw [hi] at e
        have h1 := item_sim h hi
        rw [h1]
        simp only at e ⊢
        have := item_lt hs hi
        have := item_lt hs' h1
        exact ih f' _ _ _ _ _ _ (by omega) (by omega) e
theorem alts_sim (h : Sim al (altL a)) (hs : Shr al) (hs' : Shr (altL a)) : ∀ (f f' : Nat) (l l1 : List TT) (st st1 : PS) (acc m : List Int), l.length < f → (Wt true l).length < f' → altsL al f l st acc = some (m, l1, st1) → altsL (altL a) f' (Wt true l) st acc = some (m, Wt true l1, st1) := by
  intro f
  induction f with
  | zero => intro f' l l1 st st1 acc m hf; omega
  | succ f ih =>
    intro f' l l1 st st1 acc m hf hf' e
    obtain ⟨f', rfl⟩ : ∃ k, f' = k + 1 := ⟨f' - 1, by omega⟩
    rw [altsL] at e ⊢
    cases hi : itemsL al (l.length + 1) l st [] with
    | none => rw [hi] at e; cases e
    | some q =>
      obtain ⟨k, l2, st2⟩ := q
      rw [hi] at e
      have h1 := items_sim h hs hs' _ ((Wt true l).length + 1) _ _ _ _ _ _ (by omega) (by omega) hi
      rw [h1]
      simp only at e ⊢
      have g1 := items_le hs _ _ _ _ _ _ _ hi
      have g2 := items_le hs' _ _ _ _ _ _ _ h1
      cases hm : isM l2 (mkB 124) with
      | true =>
        obtain ⟨i1, i2⟩ := isM_Wt (by decide) (by decide) hm
        have g3 := isM_len hm
        have g4 := isM_len i1
        rw [hm] at e
        simp only [i1, if_true, i2] at e ⊢
        rw [i2] at g4
        exact ih f' _ _ _ _ _ _ (by omega) (by omega) e
      | false =>
        rw [hm] at e
        simp only [isM_Wt_no (c := 124) (by decide) (by decide) (by decide) hm, Bool.false_eq_true, if_false] at e ⊢
        cases e
        rfl
theorem alt_sim (h : Sim al (altL a)) (hs : Shr al) (hs' : Shr (altL a)) : Sim (altL al) (altL (altL a)) := by
  intro l st n l1 st1 e
  unfold altL at e
  cases hi : altsL al (l.length + 1) l st [] with
  | none => rw [hi] at e; cases e
  | some q =>
    obtain ⟨k, l2, st2⟩ := q
    rw [hi] at e
    cases e
    have h1 := alts_sim h hs hs' _ ((Wt true l).length + 1) _ _ _ _ _ _ (by omega) (by omega) hi
    show (match altsL (altL a) ((Wt true l).length + 1) (Wt true l) st [] with | none => none | some (all, l1, st1) => some ((oneL 2 all st1).1, l1, (oneL 2 all st1).2)) = _
    rw [h1]
end
theorem altLF_sim : ∀ f, Sim (altLF f) (altLF (f + 1)) := by
  intro f
  induction f with
  | zero => intro l st n l1 st1 e; cases e
  | succ f ih => exact alt_sim ih (shr_altLF f) (shr_altLF (f + 1))
end Go.Proofs.Ytoiejgmfgcdniaa
