import Derived.Test.YtoiejgmfgcdniaaXIdx
set_option linter.unusedVariables false
namespace Go.Proofs.Ytoiejgmfgcdniaa
open Go.RowKit Go.Proofs.YtoiejgmfgcdniaaW.PrintWords

/-- A grammar, as plain data. -/
structure Gram where
  terms : Int
  nons : Int
  start : Int
  prods : List Prod
  deriving DecidableEq
def thereB (tm nn : Int) (b : Bool) (n : Int) : Bool := decide (0 ≤ n) && decide (n < if b then nn else tm)
def fitsB (tm nn : Int) (p : Prod) : Bool := thereB tm nn true p.left && decide (p.right.length ≤ 8) && !(p.right.any fun s => !thereB tm nn s.non s.n)
def Gram.right (g : Gram) : Bool :=
  !(decide (g.terms < 0) || decide (g.terms > 16) || decide (g.nons < 1) || decide (g.nons > 24) || decide (g.start < 0) || decide (g.start ≥ g.nons) || decide (g.prods.length > 60)) && !(g.prods.any fun p => !fitsB g.terms g.nons p)

set_option maxHeartbeats 400000 in
theorem there_any (tm nn st : Int) (A : Option Addr) (m c : Nat) (b : Bool) (n : Int) (w : World) :
    Calls Try.prog 105 #[.agg #[.int .i64 tm, .int .i64 nn, .int .i64 st, .slice A m c], .agg #[.bool b, .int .i64 n]] w fun e w' => e = .returned (.bool (thereB tm nn b n)) ∧ Below w.heap.size w w' := by
  have hbel : ∀ o1 o2, Below w.heap.size w ((w.alloc o1).alloc o2) := fun _ _ => below_alloc (below_alloc (Below.refl _ _) _) _
  have HB := Lib.hid hbel
  clear hbel
  cases b <;> by_cases h0 : 0 ≤ n <;> (go_enter Try.func105, Try.ntmps105; go_wp2; go_ret; exact ⟨ret_bool (by simp [thereB, h0] <;> omega), HB.out _ _⟩)

theorem cf107 : ∀ args W, (callFunc 107 args).run Try.prog W = .ok (.enter 107 args) W := by
  intro args W; simp [callFunc, go_sem, Try.func107]; rfl

set_option maxHeartbeats 400000 in
theorem fits1_any (tm nn st : Int) (A : Option Addr) (m c : Nat) (g : Nat) (b : Bool) (n : Int) (w : World)
    (hg : w.heap[g]? = some (.cells #[.int .i64 tm, .int .i64 nn, .int .i64 st, .slice A m c] 30 (0, 0))) :
    Calls Try.prog 107 #[.agg #[.bool b, .int .i64 n], .pointer (some ⟨g, 0, none⟩)] w fun e w' => e = .returned (.bool (!thereB tm nn b n)) ∧ Below w.heap.size w w' := by
  have hlt := blk_lt hg
  obtain ⟨d0, d1, d2, d3⟩ := cells4 hg
  clear hg
  go_enter Try.func107, Try.ntmps107
  go_wp2_with fail
  refine (there_any tm nn st A m c b n _).mono ?_
  rintro e w' ⟨rfl, hb⟩
  go_wp2_with fail
  go_ret
  exact ⟨rfl, blw (below_alloc (Below.refl _ _) _) hb⟩
set_option maxHeartbeats 800000 in
theorem fits_any (tm nn st : Int) (A : Option Addr) (m c : Nat) (x : Prod) (A1 : Option Addr) (c1 : Nat) (w : World) (hl : x.right.length ≤ c1) (hr : Kd.C kSym w A1 x.right.length x.right) :
    Calls Try.prog 56 #[.agg #[.int .i64 tm, .int .i64 nn, .int .i64 st, .slice A m c], .agg #[.int .i64 x.left, .slice A1 x.right.length c1]] w fun e w' => e = .returned (.bool (fitsB tm nn x)) ∧ Below w.heap.size w w' := by
  have HR := Lib.hid hr
  clear hr
  go_enter Try.func56, Try.ntmps56
  go_wp2_with fail
  refine (there_any tm nn st A m c true x.left _).mono ?_
  rintro e w' ⟨rfl, hb⟩
  obtain ⟨hg1, hg2, hB, _⟩ := bel2 hb
  clear hb
  obtain ⟨d0, d1⟩ := cells2 hg2
  have hcf := cf107
  have HG := Lib.hid hg1
  clear hg1 hg2
  cases h1 : thereB tm nn true x.left with
  | false =>
    go_wp2_with fail
    go_ret
    exact ⟨ret_bool (by simp [fitsB, h1]), hB⟩
  | true =>
    cases h2 : decide (x.right.length ≤ 8) with
    | false =>
      have h3 : decide ((x.right.length : Int) ≤ 8) = false := decide_eq_false (by have := of_decide_eq_false h2; omega)
      go_wp2_with fail
      go_ret
      exact ⟨ret_bool (by simp only [fitsB, h1, h2]; rfl), hB⟩
    | true =>
      have h3 : decide ((x.right.length : Int) ≤ 8) = true := decide_eq_true (by have := of_decide_eq_true h2; omega)
      go_wp2_with fail
      refine (cont_Sym 107 _ (fun s => !thereB tm nn s.non s.n) A1 _ c1 x.right w' (Kd.C_below HR.out hB) cf107 (fun s W _ hW => fits1_any tm nn st A m c _ s.non s.n W (blk_below HG.out hW))).mono ?_
      rintro e w2 ⟨rfl, hb2⟩
      go_wp2_with fail
      go_ret
      exact ⟨ret_bool (by simp only [fitsB, h1, h2]; rfl), blw hB hb2⟩
theorem cf55 : ∀ args W, (callFunc 55 args).run Try.prog W = .ok (.enter 55 args) W := by
  intro args W; simp [callFunc, go_sem, Try.func55]; rfl
set_option maxHeartbeats 400000 in
theorem gRight1_any (tm nn st : Int) (A : Option Addr) (m c : Nat) (g : Nat) (x : Prod) (A1 : Option Addr) (c1 : Nat) (w : World)
    (hg : w.heap[g]? = some (.cells #[.int .i64 tm, .int .i64 nn, .int .i64 st, .slice A m c] 30 (0, 0))) (hl : x.right.length ≤ c1) (hr : Kd.C kSym w A1 x.right.length x.right) :
    Calls Try.prog 55 #[.agg #[.int .i64 x.left, .slice A1 x.right.length c1], .pointer (some ⟨g, 0, none⟩)] w fun e w' => e = .returned (.bool (!fitsB tm nn x)) ∧ Below w.heap.size w w' := by
  have HR := Lib.hid hr
  have hlt := blk_lt hg
  obtain ⟨d0, d1, d2, d3⟩ := cells4 hg
  clear hg hr
  go_enter Try.func55, Try.ntmps55
  go_wp2_with fail
  refine (fits_any tm nn st A m c x A1 c1 _ hl (Kd.C_alloc HR.out _)).mono ?_
  rintro e w' ⟨rfl, hb⟩
  go_wp2_with fail
  go_ret
  exact ⟨rfl, (bel1 hb).2.1⟩
theorem gRight_eq (g : Gram) (h : (g.terms < 0 ∨ 16 < g.terms ∨ g.nons < 1 ∨ 24 < g.nons ∨ g.start < 0 ∨ g.nons ≤ g.start ∨ 60 < g.prods.length)) : g.right = false := by
  have : (decide (g.terms < 0) || decide (g.terms > 16) || decide (g.nons < 1) || decide (g.nons > 24) || decide (g.start < 0) || decide (g.start ≥ g.nons) || decide (g.prods.length > 60)) = true := by
    simp only [Bool.or_eq_true, decide_eq_true_eq]; omega
  unfold Gram.right
  rw [this]; rfl
theorem gRight_eq' (g : Gram) (h : ¬ (g.terms < 0 ∨ 16 < g.terms ∨ g.nons < 1 ∨ 24 < g.nons ∨ g.start < 0 ∨ g.nons ≤ g.start ∨ 60 < g.prods.length)) : g.right = !(g.prods.any fun p => !fitsB g.terms g.nons p) := by
  have : (decide (g.terms < 0) || decide (g.terms > 16) || decide (g.nons < 1) || decide (g.nons > 24) || decide (g.start < 0) || decide (g.start ≥ g.nons) || decide (g.prods.length > 60)) = false := by
    simp only [Bool.or_eq_false_iff, decide_eq_false_iff_not]; omega
  unfold Gram.right
  rw [this]; rfl
set_option maxHeartbeats 800000 in
theorem gRight_any (g : Gram) (A : Option Addr) (c : Nat) (w : World) (hl : g.prods.length ≤ c) (hr : Kd.C kProd w A g.prods.length g.prods) :
    Calls Try.prog 17 #[.agg #[.int .i64 g.terms, .int .i64 g.nons, .int .i64 g.start, .slice A g.prods.length c]] w fun e w' => e = .returned (.bool g.right) ∧ Below w.heap.size w w' := by
  have HR := Lib.hid hr
  have hm := Kd.C_max hr
  clear hr
  have hcf := cf55
  go_enter Try.func17, Try.ntmps17
  go_wp2_with fail
  all_goals first
    | (go_ret; exact ⟨ret_bool (gRight_eq g (by omega)).symm, below_alloc (Below.refl _ _) _⟩)
    | skip
  refine (cont_Prod 55 _ (fun p => !fitsB g.terms g.nons p) A _ c g.prods _ (Kd.C_alloc HR.out _) cf55 (fun x A1 c1 W _ hW l1 g1 => gRight1_any g.terms g.nons g.start A g.prods.length c _ x A1 c1 W (blk_below (blk_new w _) hW) l1 g1)).mono ?_
  rintro e w' ⟨rfl, hb⟩
  go_wp2_with fail
  go_ret
  exact ⟨ret_bool (gRight_eq' g (by omega)).symm, (bel1 hb).2.1⟩
end Go.Proofs.Ytoiejgmfgcdniaa
