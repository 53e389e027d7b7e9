import Derived.Test.YtoiejgmfgcdniaaLaw1
set_option linter.unusedVariables false
set_option linter.unusedSimpArgs false
namespace Go.Proofs.Ytoiejgmfgcdniaa
open Go.RowKit Go.Proofs.YtoiejgmfgcdniaaW.PrintWords

/-! ### LowerShape: its short ways -/
def TrueBelow (w : World) (e : Ending) (w' : World) : Prop := e = .returned (.bool true) ∧ Below w.heap.size w w'
def AwakeSaid (F : Nat) : Prop := ∀ w, Calls Try.prog F #[] w (TrueBelow w)
theorem LowerPost.open_ {g : Gram} {l : List ByteArray} {n : Int} {w : World} {e : Ending} {w' : World} (h : LowerPost (g, l, n) w e w') :
    ∃ Ap cp Av cv, e = .returned (.tuple #[.agg #[.int .i64 g.terms, .int .i64 g.nons, .int .i64 g.start, .slice Ap g.prods.length cp], .slice Av l.length cv, .int .i64 n]) ∧ g.prods.length ≤ cp ∧ Kd.C kProd w' Ap g.prods.length g.prods ∧ Kd.C Kd.string w' Av l.length l ∧ l.length ≤ cv ∧ Below w.heap.size w w' := by
  obtain ⟨pv, nv, rfl, h1, h2, h3⟩ := h
  obtain ⟨Ap, cp, rfl, a1, a2⟩ := Kd.R_reads h1
  obtain ⟨Av, cv, rfl, b1, b2⟩ := Kd.R_reads h2
  exact ⟨Ap, cp, Av, cv, rfl, a1, a2, b2, b1, h3⟩
section
variable (t : Tree) (A0 : Option Addr) (c0 : Nat) (A1 : Option Addr) (c1 : Nat) (w : World)
theorem TreeRow.of_large {t : Tree} {w : World} {A0 : Option Addr} {c0 : Nat} {A1 : Option Addr} {c1 : Nat} (hr0 : Kd.C kRule w A0 t.rules.length t.rules) (hl0 : t.rules.length ≤ c0) (hr1 : Kd.C kNode w A1 t.nodes.length t.nodes) (hl1 : t.nodes.length ≤ c1) (h : largeB t = false) : TreeRow w t A0 c0 A1 c1 := by
  unfold largeB at h
  simp only [Bool.or_eq_false_iff, List.any_eq_false] at h
  obtain ⟨_, h1, h2⟩ := h
  refine ⟨hr0, hl0, hr1, hl1, fun r hr => ?_, fun n hn => ?_⟩
  · have := h1 r hr; simp [largeR] at this; omega
  · have := h2 n hn; simp [largeN] at this; omega
set_option maxRecDepth 100000 in
set_option maxHeartbeats 1000000 in
theorem shape_large (haw : AwakeSaid 13) (hr0 : Kd.C kRule w A0 t.rules.length t.rules) (hr1 : Kd.C kNode w A1 t.nodes.length t.nodes) (h : largeB t = true) :
    Calls Try.prog 3 #[.agg #[.slice A0 t.rules.length c0, .slice A1 t.nodes.length c1]] w (TrueBelow w) := by
  have HR := Lib.hid hr0
  have HS := Lib.hid hr1
  have HL := Lib.hid h
  have HA := Lib.hid haw
  clear hr0 hr1 h haw
  go_enter Try.func3, Try.ntmps3
  go_wp2_with fail
  refine (HA.out _).mono ?_
  rintro e w1 ⟨rfl, hb1⟩
  obtain ⟨hg1, hb2, _⟩ := bel1 hb1
  have HB1 := Lib.hid hb2
  obtain ⟨e0, e1⟩ := cells2 hg1
  clear hb1 hb2
  go_wp2_with fail
  refine (large_any t A0 c0 A1 c1 w1 (Kd.C_below HR.out HB1.out) (Kd.C_below HS.out HB1.out)).mono ?_
  rintro e w2 ⟨rfl, hb2⟩
  rw [HL.out]
  have HB2 := Lib.hid (blw HB1.out hb2)
  clear hb2
  go_wp2_with fail
  go_ret
  exact ⟨rfl, HB2.out⟩
set_option maxRecDepth 100000 in
set_option maxHeartbeats 2000000 in
theorem shape_error (haw : AwakeSaid 13) (ht : TreeRow w t A0 c0 A1 c1) (h : largeB t = false) (n : Int) (hlow : lowerP t = (⟨0, 0, 0, []⟩, [], n)) (hn : n = 1 ∧ t.right = false ∨ n = 5 ∧ t.right = true) :
    Calls Try.prog 3 #[.agg #[.slice A0 t.rules.length c0, .slice A1 t.nodes.length c1]] w (TrueBelow w) := by
  have HT := Lib.hid ht
  have HL := Lib.hid h
  have HA := Lib.hid haw
  have HW := Lib.hid hlow
  have hn0 : (n != 0) = true := by rcases hn with ⟨rfl, _⟩ | ⟨rfl, _⟩ <;> rfl
  have hres : Hid (((n == 1) == !t.right) = true) := Lib.hid (by rcases hn with ⟨rfl, h⟩ | ⟨rfl, h⟩ <;> rw [h] <;> rfl)
  clear ht h haw hlow hn
  go_enter Try.func3, Try.ntmps3
  go_wp2_with fail
  refine (HA.out _).mono ?_
  rintro e w1 ⟨rfl, hb1⟩
  obtain ⟨hg1, hb2, _⟩ := bel1 hb1
  have HB1 := Lib.hid hb2
  have HG1 := Lib.hid hg1
  obtain ⟨e0, e1⟩ := cells2 hg1
  clear hb1 hb2 hg1
  go_wp2_with fail
  refine (large_any t A0 c0 A1 c1 w1 (HT.out.below HB1.out).r0 (HT.out.below HB1.out).r1).mono ?_
  rintro e w2 ⟨rfl, hb2⟩
  rw [HL.out]
  have HB2 := Lib.hid (blw HB1.out hb2)
  have HG2 := Lib.hid (blk_below HG1.out hb2)
  clear hb2 e0 e1
  obtain ⟨e0, e1⟩ := cells2 HG2.out
  go_wp2_with fail
  refine (lower_any t A0 c0 A1 c1 w2 (HT.out.below HB2.out)).mono ?_
  intro e w3 hp
  rw [HW.out] at hp
  obtain ⟨Ap, cp, Av, cv, rfl, _, _, _, _, hb3⟩ := hp.open_
  have HB3 := Lib.hid (blw HB2.out hb3)
  have HG3 := Lib.hid (blk_below HG2.out hb3)
  clear hp hb3 e0 e1
  obtain ⟨e0, e1⟩ := cells2 HG3.out
  have q0 := cell1 e0
  have q1 := cell1 e1
  go_wp2_with fail
  refine (right_any t A0 c0 A1 c1 _ (HT.out.below (blw HB3.out (below_alloc (Below.refl _ _) _))).r0 HT.out.l0 (HT.out.below (blw HB3.out (below_alloc (Below.refl _ _) _))).r1 HT.out.l1 HT.out.s1).mono ?_
  rintro e w4 ⟨rfl, hb4⟩
  have HB4 := Lib.hid (blw HB3.out (blw (below_alloc (Below.refl _ _) _) hb4))
  clear hb4
  generalize t.right = r at *
  go_wp2_with fail
  go_ret
  exact ⟨ret_bool hres.out, HB4.out⟩
end
end Go.Proofs.Ytoiejgmfgcdniaa
