import Derived.Test.YtoiejgmfgcdniaaXSh5
import Derived.Test.YtoiejgmfgcdniaaXLp5
set_option linter.unusedVariables false
set_option linter.unusedSimpArgs false
namespace Go.Proofs.Ytoiejgmfgcdniaa
open Go.RowKit Go.Proofs.YtoiejgmfgcdniaaW.PrintWords

/-! ### a tree's tokens parse to the tree (plain) -/
def toT (s : ByteArray) : TT := match s.data.toList with
  | [] => (3, s)
  | c :: r => if c = 39 then (2, bs r.dropLast) else if letterI c.toNat = true then (1, s) else (3, s)
def mt (c : UInt8) : TT := (3, mkB c)
theorem toT_mark : toT (tB 40) = mt 40 ∧ toT (tB 41) = mt 41 ∧ toT (tB 42) = mt 42 ∧ toT (tB 43) = mt 43 ∧ toT (tB 63) = mt 63 ∧ toT (tB 124) = mt 124 ∧ toT (tB 58) = mt 58 ∧ toT (tB 59) = mt 59 := by
  refine ⟨?_, ?_, ?_, ?_, ?_, ?_, ?_, ?_⟩ <;> rfl
theorem toT_name {s : ByteArray} (h : PName s) : toT s = (1, s) := by
  obtain ⟨⟨c, r, e, hl, _⟩, _⟩ := h
  unfold toT
  rw [e]
  simp only
  rw [if_neg (letter_not hl).2.2, if_pos hl]
theorem toT_quote (s : ByteArray) : toT (quoteB s) = (2, s) := by
  have e : (quoteB s).data.toList = 39 :: (s.data.toList ++ [39]) := by
    unfold quoteB tB
    rw [ByteArray.data_append, ByteArray.data_append]
    simp
  unfold toT
  rw [e]
  simp only [if_true, List.dropLast_concat]
  congr 1
section
variable (N : List Node)
def T (n : Nat) : List TT := (sh N n).map toT
def atomT (k : Int) : List TT := (atK N (shAtom N (sh N)) k).map toT
def itemT (k : Int) : List TT := (atK N (shItem N (sh N)) k).map toT
def altT (k : Int) : List TT := (atK N (shAlt N (sh N)) k).map toT
def interT : List (List TT) → List TT
  | [] => []
  | x :: xs => x ++ (xs.map (fun y => mt 124 :: y)).flatten
theorem inter_map (l : List (List ByteArray)) : (inter l).map toT = interT (l.map (List.map toT)) := by
  cases l with
  | nil => rfl
  | cons x xs =>
    simp only [inter, interT, List.map_append, List.map_cons, List.map_flatten, List.map_map]
    congr 2
structure Good (Q : ByteArray → Prop) (s : Nat) (st : PS) : Prop where
  nodes : st.nodes = N.take s
  used : ∀ u, u ∈ st.used → Q u
def noMk (l : List TT) : Prop := isM l (mkB 42) = false ∧ isM l (mkB 43) = false ∧ isM l (mkB 63) = false
end
theorem isM_mt (c d : UInt8) (l : List TT) : isM (mt c :: l) (mkB d) = decide (c = d) := by
  unfold isM mt
  simp only [decide_true, Bool.true_and]
  by_cases h : c = d
  · subst h; simp
  · rw [decide_eq_false h, decide_eq_false]
    intro e
    have := congrArg (fun x : ByteArray => x.data.toList) e
    simp [mkB] at this
    exact h this
theorem isM_tok {t : TT} (h : t.1 ≠ 3) (l : List TT) (m : ByteArray) : isM (t :: l) m = false := by
  unfold isM
  simp [h]
theorem begL_mt (c : UInt8) (l : List TT) : begL (mt c :: l) = decide (c = 40) := by
  unfold begL
  rw [isM_mt]
  simp [mt]
theorem begL_tok {t : TT} (h : t.1 ≠ 3) (l : List TT) : begL (t :: l) = true := by
  unfold begL
  simp [h]
theorem noMk_of_beg {l : List TT} (h : begL l = true) : noMk l := by
  cases l with
  | nil => exact ⟨rfl, rfl, rfl⟩
  | cons t l =>
    unfold begL at h
    simp only [Bool.or_eq_true, decide_eq_true_eq] at h
    rcases h with h | h
    · exact ⟨isM_tok h _ _, isM_tok h _ _, isM_tok h _ _⟩
    · unfold isM at h
      simp only [Bool.and_eq_true, decide_eq_true_eq] at h
      obtain ⟨h1, h2⟩ := h
      have e : t = mt 40 := by obtain ⟨a, b⟩ := t; simp only at h1 h2; subst h1 h2; rfl
      subst e
      exact ⟨isM_mt 40 42 l, isM_mt 40 43 l, isM_mt 40 63 l⟩
end Go.Proofs.Ytoiejgmfgcdniaa
