import Derived.Test.YtoiejgmfgcdniaaXRead21
set_option linter.unusedVariables false
set_option linter.unusedSimpArgs false
namespace Go.Proofs.Ytoiejgmfgcdniaa
open Go.RowKit Go.Proofs.YtoiejgmfgcdniaaW.PrintWords

/-! ### the parser over the tokens that are left (plain) -/
abbrev TT := Int × ByteArray
structure PS where
  nodes : List Node
  used : List ByteArray
def PS.lay (st : PS) (x : Node) : PS := { st with nodes := st.nodes ++ [x] }
def PS.use (st : PS) (nm : ByteArray) : PS := { st with used := st.used ++ [nm] }
def isM (l : List TT) (mark : ByteArray) : Bool := match l with | t :: _ => decide (t.1 = 3) && decide (t.2 = mark) | [] => false
def begL (l : List TT) : Bool := match l with | t :: _ => decide (t.1 ≠ 3) || isM l (mkB 40) | [] => false
abbrev LP := Option (Int × List TT × PS)
abbrev LPs := Option (List Int × List TT × PS)
def atomL (alt : List TT → PS → LP) (l : List TT) (st : PS) : LP :=
  if isM l (mkB 40) then
    match alt l.tail st with
    | none => none
    | some (n, l1, st1) => if isM l1 (mkB 41) then some (n, l1.tail, st1) else none
  else match l with
    | [] => none
    | x :: r => if x.1 = 2 then some ((st.nodes.length : Int), r, st.lay ⟨7, x.2, []⟩) else if x.1 = 1 then some ((st.nodes.length : Int), r, (st.use x.2).lay ⟨6, x.2, []⟩) else none
def itemL (alt : List TT → PS → LP) (l : List TT) (st : PS) : LP :=
  match atomL alt l st with
  | none => none
  | some (n, l1, st1) =>
    if isM l1 (mkB 42) then some ((st1.nodes.length : Int), l1.tail, st1.lay ⟨3, ⟨#[]⟩, [n]⟩)
    else if isM l1 (mkB 43) then some ((st1.nodes.length : Int), l1.tail, st1.lay ⟨4, ⟨#[]⟩, [n]⟩)
    else if isM l1 (mkB 63) then some ((st1.nodes.length : Int), l1.tail, st1.lay ⟨5, ⟨#[]⟩, [n]⟩)
    else some (n, l1, st1)
def itemsL (alt : List TT → PS → LP) : Nat → List TT → PS → List Int → LPs
  | 0, l, st, acc => some (acc, l, st)
  | f + 1, l, st, acc => if begL l then
      match itemL alt l st with
      | none => none
      | some (n, l1, st1) => itemsL alt f l1 st1 (acc ++ [n])
    else some (acc, l, st)
def oneL (kind : Int) (k : List Int) (st : PS) : Int × PS := if k.length = 1 then (k.headD 0, st) else ((st.nodes.length : Int), st.lay ⟨kind, ⟨#[]⟩, k⟩)
def altsL (alt : List TT → PS → LP) : Nat → List TT → PS → List Int → LPs
  | 0, l, st, acc => some (acc, l, st)
  | f + 1, l, st, acc =>
    match itemsL alt (l.length + 1) l st [] with
    | none => none
    | some (k, l1, st1) =>
      if isM l1 (mkB 124) then altsL alt f l1.tail (oneL 1 k st1).2 (acc ++ [(oneL 1 k st1).1])
      else some (acc ++ [(oneL 1 k st1).1], l1, (oneL 1 k st1).2)
def altL (alt : List TT → PS → LP) (l : List TT) (st : PS) : LP :=
  match altsL alt (l.length + 1) l st [] with
  | none => none
  | some (all, l1, st1) => some ((oneL 2 all st1).1, l1, (oneL 2 all st1).2)
def altLF : Nat → List TT → PS → LP
  | 0 => fun _ _ => none
  | f + 1 => altL (altLF f)
/-! ### it is the reader's -/
def tt (t : Tok) : TT := (t.kind, t.text)
def rest (toks : List Tok) (s : RdS) : List TT := (toks.drop s.pos).map tt
def psOf (s : RdS) : PS := ⟨s.nodes, s.used.map Use.name⟩
def pr (toks : List Tok) {α : Type} : Except Int (α × RdS) → Option (α × List TT × PS)
  | .ok (n, s) => some (n, rest toks s, psOf s)
  | .error _ => none
section
variable {toks : List Tok} {en : Int}
theorem isM_rest (s : RdS) (mark : ByteArray) : isM (rest toks s) mark = isMark toks s.pos mark := by
  unfold rest isMark
  cases hx : toks[s.pos]? with
  | none => rw [List.drop_eq_nil_of_le (List.getElem?_eq_none_iff.1 hx)]; rfl
  | some t => rw [drop_of hx]; rfl
theorem begL_rest (s : RdS) : begL (rest toks s) = beginsB toks s.pos := by
  have h := isM_rest (toks := toks) s (mkB 40)
  unfold begL beginsB
  unfold rest at h ⊢
  cases hx : toks[s.pos]? with
  | none => rw [List.drop_eq_nil_of_le (List.getElem?_eq_none_iff.1 hx)]; rfl
  | some t => rw [drop_of hx] at h ⊢; simp only [List.map_cons] at h ⊢; rw [h]; rfl
theorem tail_rest (s : RdS) : (rest toks s).tail = rest toks (stepS s) := by
  unfold rest stepS
  rw [← List.map_tail, List.tail_drop]
theorem len_rest (s : RdS) (h : s.pos ≤ toks.length) : (rest toks s).length + 1 = toks.length + 1 - s.pos := by
  unfold rest
  rw [List.length_map, List.length_drop]
  omega
theorem psOf_lay (s : RdS) (x : Node) : psOf (layN s x).2 = (psOf s).lay x := rfl
theorem oneL_of (kind : Int) (k : List Int) (s : RdS) : oneL kind k (psOf s) = ((oneP kind k s).1, psOf (oneP kind k s).2) := by
  unfold oneL oneP
  split <;> rfl
theorem oneP_rest (kind : Int) (k : List Int) (s : RdS) : rest toks (oneP kind k s).2 = rest toks s := by unfold rest; rw [oneP_pos]
variable {alt : RdS → RP} {al : List TT → PS → LP}
def Same2 (toks : List Tok) (alt : RdS → RP) (al : List TT → PS → LP) : Prop := ∀ s, s.pos ≤ toks.length → pr toks (alt s) = al (rest toks s) (psOf s)
theorem atomL_of (h : Same2 toks alt al) (s : RdS) (hs : s.pos ≤ toks.length) : pr toks (atomW toks en alt s) = atomL al (rest toks s) (psOf s) := by
  unfold atomW atomL
  rw [isM_rest]
  cases hm : isMark toks s.pos (mkB 40)
  · simp only [Bool.false_eq_true, if_false]
    cases hx : toks[s.pos]? with
    | none =>
      have : rest toks s = [] := by unfold rest; rw [List.drop_eq_nil_of_le (List.getElem?_eq_none_iff.1 hx)]; rfl
      rw [this]
      rfl
    | some x =>
      have e : rest toks s = tt x :: rest toks (stepS s) := by unfold rest; rw [drop_of hx]; rfl
      rw [e]
      simp only
      by_cases h2 : x.kind = 2
      · rw [if_pos h2, if_pos (show (tt x).1 = 2 from h2)]; rfl
      · rw [if_neg h2, if_neg (show ¬ (tt x).1 = 2 from h2)]
        unfold nameP
        rw [hx]
        by_cases h1 : x.kind = 1
        · rw [if_pos (show (tt x).1 = 1 from h1)]
          simp only [if_pos h1]
          show some _ = some _
          simp only [PS.lay, PS.use, psOf, rest, stepS, tt, List.map_append, List.map_cons, List.map_nil]
        · rw [if_neg (show ¬ (tt x).1 = 1 from h1)]
          simp only [if_neg h1]; rfl
  · simp only [if_true]
    have hlt := isMark_lt hm
    have h1 := h (stepS s) (by show s.pos + 1 ≤ _; omega)
    rw [tail_rest]
    have e : psOf s = psOf (stepS s) := rfl
    rw [e, ← h1]
    cases hal : alt (stepS s) with
    | error p => rfl
    | ok r =>
      obtain ⟨n, s1⟩ := r
      simp only [pr]
      rw [isM_rest]
      cases isMark toks s1.pos (mkB 41)
      · rfl
      · simp only [if_true, pr]
        rw [tail_rest]
        rfl
theorem itemL_of (h : Same2 toks alt al) (s : RdS) (hs : s.pos ≤ toks.length) : pr toks (itemW toks en alt s) = itemL al (rest toks s) (psOf s) := by
  unfold itemW itemL
  rw [← atomL_of (en := en) h s hs]
  cases hat : atomW toks en alt s with
  | error p => rfl
  | ok r =>
    obtain ⟨n, s1⟩ := r
    simp only [pr]
    rw [isM_rest, isM_rest, isM_rest, tail_rest]
    cases isMark toks s1.pos (mkB 42)
    · cases isMark toks s1.pos (mkB 43)
      · cases isMark toks s1.pos (mkB 63) <;> rfl
      · rfl
    · rfl
theorem itemsL_of (h : Same2 toks alt al) (hm : Mono toks alt) : ∀ (f : Nat) (s : RdS) (l : List Int), s.pos ≤ toks.length → pr toks (itemsGo toks en alt f s l) = itemsL al f (rest toks s) (psOf s) l := by
  intro f
  induction f with
  | zero => intro s l hs; rfl
  | succ f ih =>
    intro s l hs
    rw [itemsGo, itemsL, begL_rest]
    cases hb : beginsB toks s.pos
    · rfl
    · simp only [if_true]
      rw [← itemL_of (en := en) h s hs]
      cases hi : itemW toks en alt s with
      | error p => rfl
      | ok r =>
        obtain ⟨n, s1⟩ := r
        simp only [pr]
        exact ih s1 _ (itemW_mono hm (beginsB_lt hb) hi).2
theorem altsL_of (h : Same2 toks alt al) (hm : Mono toks alt) : ∀ (f : Nat) (s : RdS) (l : List Int), s.pos ≤ toks.length → pr toks (altsGo toks en alt f s l) = altsL al f (rest toks s) (psOf s) l := by
  intro f
  induction f with
  | zero => intro s l hs; rfl
  | succ f ih =>
    intro s l hs
    rw [altsGo, altsL, len_rest s hs, ← itemsL_of (en := en) h hm _ s [] hs]
    cases hi : itemsGo toks en alt (toks.length + 1 - s.pos) s [] with
    | error p => rfl
    | ok r =>
      obtain ⟨k, s1⟩ := r
      have h1 := itemsGo_mono hm _ _ _ _ _ hs hi
      simp only [pr]
      rw [oneL_of, isM_rest, oneP_pos]
      cases hmk : isMark toks s1.pos (mkB 124)
      · simp only [Bool.false_eq_true, if_false, pr]
        rw [oneP_rest]
      · simp only [if_true]
        have hlt := isMark_lt hmk
        have h3 := ih (stepS (oneP 1 k s1).2) (l ++ [(oneP 1 k s1).1]) (by show (oneP 1 k s1).2.pos + 1 ≤ _; rw [oneP_pos]; omega)
        have e : rest toks (stepS (oneP 1 k s1).2) = rest toks (stepS s1) := by unfold rest stepS; simp only [oneP_pos]
        rw [e] at h3
        rw [tail_rest]
        exact h3
theorem altW_of (h : Same2 toks alt al) (hm : Mono toks alt) : Same2 toks (altW toks en alt) (altL al) := by
  intro s hs
  unfold altW altL
  rw [len_rest s hs, ← altsL_of (en := en) h hm _ s [] hs]
  cases hi : altsGo toks en alt (toks.length + 1 - s.pos) s [] with
  | error p => rfl
  | ok r =>
    obtain ⟨k, s1⟩ := r
    simp only [pr]
    rw [oneL_of, oneP_rest]
theorem altF_of (toks : List Tok) (en : Int) : ∀ f, Same2 toks (altF toks en f) (altLF f) := by
  intro f
  induction f with
  | zero => intro s hs; rfl
  | succ f ih => exact altW_of ih (altF_mono toks en f)
end
end Go.Proofs.Ytoiejgmfgcdniaa
