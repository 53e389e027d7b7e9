import Derived.Test.YtoiejgmfgcdniaaRead8
set_option linter.unusedVariables false
set_option linter.unusedSimpArgs false
namespace Go.Proofs.Ytoiejgmfgcdniaa
open Go.RowKit Go.Proofs.YtoiejgmfgcdniaaW.PrintWords

/-! ### how much the parser may lay -/
def bud (toks : List Tok) (s : RdS) : Nat := s.nodes.length + s.used.length + 4 * (toks.length - s.pos)
def Thrift (toks : List Tok) (alt : RdS → RP) : Prop := ∀ s n s1, s.pos ≤ toks.length → alt s = .ok (n, s1) → bud toks s1 ≤ bud toks s + 2
theorem bud_lay (toks : List Tok) (s : RdS) (x : Node) : bud toks (layN s x).2 = bud toks s + 1 := by unfold bud layN; simp only [List.length_append, List.length_singleton]; omega
theorem bud_step (toks : List Tok) (s : RdS) (h : s.pos < toks.length) : bud toks (stepS s) + 4 = bud toks s := by unfold bud stepS; simp only; omega
theorem bud_one (toks : List Tok) (kind : Int) (l : List Int) (s : RdS) : bud toks (oneP kind l s).2 ≤ bud toks s + 1 := by
  unfold oneP
  split
  · simp
  · unfold bud; simp only [List.length_append, List.length_singleton]; omega
theorem atomW_thrift {toks : List Tok} {en : Int} {alt : RdS → RP} (ha : Mono toks alt) (hb : Thrift toks alt) {s s1 : RdS} {n : Int} (hs : s.pos < toks.length) (h : atomW toks en alt s = .ok (n, s1)) : bud toks s1 + 2 ≤ bud toks s := by
  have h0 := bud_step toks s hs
  unfold atomW at h
  split at h
  · cases hal : alt (stepS s) with
    | error p => rw [hal] at h; cases h
    | ok r =>
      obtain ⟨k, s2⟩ := r
      rw [hal] at h
      simp only at h
      have h1 := hb _ _ _ (by show s.pos + 1 ≤ _; omega) hal
      split at h
      · rename_i hm
        have h2 := bud_step toks s2 (isMark_lt hm)
        simp only [Except.ok.injEq, Prod.mk.injEq] at h
        obtain ⟨_, rfl⟩ := h
        omega
      · cases h
  · cases hx : toks[s.pos]? with
    | none => rw [hx] at h; cases h
    | some x =>
      rw [hx] at h
      simp only at h
      split at h
      · simp only [Except.ok.injEq] at h
        have h3 : s1 = (layN (stepS s) ⟨7, x.text, []⟩).2 := by rw [h]
        rw [h3, bud_lay]
        omega
      · cases hn : nameP toks en s.pos with
        | error p => rw [hn] at h; cases h
        | ok u =>
          rw [hn] at h
          simp only [Except.ok.injEq] at h
          have h3 : s1 = (layN { stepS s with used := s.used ++ [u] } ⟨6, u.name, []⟩).2 := by rw [h]
          rw [h3, bud_lay]
          have h4 : bud toks { stepS s with used := s.used ++ [u] } = bud toks (stepS s) + 1 := by unfold bud stepS; simp only [List.length_append, List.length_singleton]; omega
          omega
theorem itemW_thrift {toks : List Tok} {en : Int} {alt : RdS → RP} (ha : Mono toks alt) (hb : Thrift toks alt) {s s1 : RdS} {n : Int} (hs : s.pos < toks.length) (h : itemW toks en alt s = .ok (n, s1)) : bud toks s1 + 2 ≤ bud toks s := by
  unfold itemW at h
  cases hat : atomW toks en alt s with
  | error p => rw [hat] at h; cases h
  | ok r =>
    obtain ⟨k, s2⟩ := r
    rw [hat] at h
    simp only at h
    have h2 := atomW_thrift ha hb hs hat
    have key : ∀ (x : Node) (hm : s2.pos < toks.length), s1 = (layN (stepS s2) x).2 → bud toks s1 + 2 ≤ bud toks s := fun x hm e => by
      have := bud_step toks s2 hm
      rw [e, bud_lay]; omega
    split at h
    · rename_i hm
      simp only [Except.ok.injEq] at h
      exact key _ (isMark_lt hm) (by rw [h])
    split at h
    · rename_i hm
      simp only [Except.ok.injEq] at h
      exact key _ (isMark_lt hm) (by rw [h])
    split at h
    · rename_i hm
      simp only [Except.ok.injEq] at h
      exact key _ (isMark_lt hm) (by rw [h])
    · simp only [Except.ok.injEq, Prod.mk.injEq] at h
      obtain ⟨_, rfl⟩ := h
      exact h2
theorem itemsGo_thrift {toks : List Tok} {en : Int} {alt : RdS → RP} (ha : Mono toks alt) (hb : Thrift toks alt) : ∀ (f : Nat) (s : RdS) (l l' : List Int) (s1 : RdS), s.pos ≤ toks.length → itemsGo toks en alt f s l = .ok (l', s1) → bud toks s1 ≤ bud toks s := by
  intro f
  induction f with
  | zero => intro s l l' s1 hs h; simp only [itemsGo, Except.ok.injEq, Prod.mk.injEq] at h; obtain ⟨_, rfl⟩ := h; omega
  | succ f ih =>
    intro s l l' s1 hs h
    rw [itemsGo] at h
    split at h
    · rename_i hbg
      cases hi : itemW toks en alt s with
      | error p => rw [hi] at h; cases h
      | ok r =>
        obtain ⟨k, s2⟩ := r
        rw [hi] at h
        simp only at h
        have h2 := itemW_mono ha (beginsB_lt hbg) hi
        have h3 := itemW_thrift ha hb (beginsB_lt hbg) hi
        have := ih s2 _ _ _ h2.2 h
        omega
    · simp only [Except.ok.injEq, Prod.mk.injEq] at h; obtain ⟨_, rfl⟩ := h; omega
theorem altsGo_thrift {toks : List Tok} {en : Int} {alt : RdS → RP} (ha : Mono toks alt) (hb : Thrift toks alt) : ∀ (f : Nat) (s : RdS) (l l' : List Int) (s1 : RdS), s.pos ≤ toks.length → altsGo toks en alt f s l = .ok (l', s1) → bud toks s1 ≤ bud toks s + 1 := by
  intro f
  induction f with
  | zero => intro s l l' s1 hs h; simp only [altsGo, Except.ok.injEq, Prod.mk.injEq] at h; obtain ⟨_, rfl⟩ := h; omega
  | succ f ih =>
    intro s l l' s1 hs h
    rw [altsGo] at h
    cases hi : itemsGo toks en alt (toks.length + 1 - s.pos) s [] with
    | error p => rw [hi] at h; cases h
    | ok r =>
      obtain ⟨k, s2⟩ := r
      rw [hi] at h
      simp only at h
      have h2 := itemsGo_mono ha _ _ _ _ _ hs hi
      have h4 := itemsGo_thrift ha hb _ _ _ _ _ hs hi
      have h5 := bud_one toks 1 k s2
      split at h
      · rename_i hm
        have h3 := isMark_lt hm
        have h6 := bud_step toks (oneP 1 k s2).2 h3
        have := ih _ _ _ _ (by show (oneP 1 k s2).2.pos + 1 ≤ _; omega) h
        omega
      · simp only [Except.ok.injEq, Prod.mk.injEq] at h; obtain ⟨_, rfl⟩ := h; omega
theorem altW_thrift {toks : List Tok} {en : Int} {alt : RdS → RP} (ha : Mono toks alt) (hb : Thrift toks alt) : Thrift toks (altW toks en alt) := by
  intro s n s1 hs h
  unfold altW at h
  cases hi : altsGo toks en alt (toks.length + 1 - s.pos) s [] with
  | error p => rw [hi] at h; cases h
  | ok r =>
    obtain ⟨k, s2⟩ := r
    rw [hi] at h
    simp only [Except.ok.injEq] at h
    have h2 := altsGo_thrift ha hb _ _ _ _ _ hs hi
    have h3 : s1 = (oneP 2 k s2).2 := by rw [h]
    have h4 := bud_one toks 2 k s2
    rw [h3]
    omega
theorem altF_thrift (toks : List Tok) (en : Int) : ∀ f, Thrift toks (altF toks en f) := by
  intro f
  induction f with
  | zero => intro s n s1 _ h; cases h
  | succ f ih => exact altW_thrift (altF_mono toks en f) ih
end Go.Proofs.Ytoiejgmfgcdniaa
