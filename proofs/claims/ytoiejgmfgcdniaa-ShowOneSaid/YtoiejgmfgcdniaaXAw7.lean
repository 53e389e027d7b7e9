import Derived.Test.YtoiejgmfgcdniaaXAw61
import Derived.Test.YtoiejgmfgcdniaaXSh8
set_option linter.unusedVariables false
set_option linter.unusedSimpArgs false
namespace Go.Proofs.Ytoiejgmfgcdniaa
open Go.RowKit Go.Proofs.YtoiejgmfgcdniaaW.PrintWords

/-! ### awake of the statements of show -/
def tree7 : Tree := ⟨[⟨sS, 5⟩], [⟨7, sA, []⟩, ⟨6, sS, []⟩, ⟨1, ⟨#[]⟩, [0, 1]⟩, ⟨3, ⟨#[]⟩, [2]⟩, ⟨1, ⟨#[]⟩, []⟩, ⟨2, ⟨#[]⟩, [3, 4]⟩]⟩
theorem show70 : showP tree7 = (⟨#[115, 32, 58, 32, 40, 32, 39, 97, 39, 32, 115, 32, 41, 32, 42, 32, 124, 32, 59, 10]⟩, 0) := by decide +kernel
theorem show71 : showP ⟨[], []⟩ = (⟨#[]⟩, 1) := by decide +kernel
theorem tok70 : tokP tree7 0 = ([⟨#[40]⟩, ⟨#[39, 97, 39]⟩, ⟨#[115]⟩, ⟨#[41]⟩, ⟨#[42]⟩, ⟨#[124]⟩], 0) := by decide +kernel
theorem tok71 : tokP tree7 1 = ([], 11) := by decide +kernel
def sRule7 : Obj := .cells #[.string sS, .int .i64 5] 59
def sKids0 : Obj := .cells #[.int .i64 0, .int .i64 1] 3
def sKids1 : Obj := .cells #[.int .i64 2] 3
def sKids2 : Obj := .cells #[.int .i64 3, .int .i64 4] 3
def sNodes7 (b1 b2 b3 : Nat) : Obj := .cells #[.int .i64 7, .string sA, .slice none 0 0, .int .i64 6, .string sS, .slice none 0 0, .int .i64 1, .string ⟨#[]⟩, .slice (some ⟨b1, 0, none⟩) 2 2, .int .i64 3, .string ⟨#[]⟩, .slice (some ⟨b2, 0, none⟩) 1 1, .int .i64 1, .string ⟨#[]⟩, .slice none 0 0, .int .i64 2, .string ⟨#[]⟩, .slice (some ⟨b3, 0, none⟩) 2 2] 57
theorem tree7_row (w : World) : Kd.C kRule (((((w.alloc sRule7).alloc sKids0).alloc sKids1).alloc sKids2).alloc (sNodes7 (w.heap.size + 1) (w.heap.size + 1 + 1) (w.heap.size + 1 + 1 + 1))) (some ⟨w.heap.size, 0, none⟩) tree7.rules.length tree7.rules ∧ Kd.C kNode (((((w.alloc sRule7).alloc sKids0).alloc sKids1).alloc sKids2).alloc (sNodes7 (w.heap.size + 1) (w.heap.size + 1 + 1) (w.heap.size + 1 + 1 + 1))) (some ⟨w.heap.size + 1 + 1 + 1 + 1, 0, none⟩) tree7.nodes.length tree7.nodes := by
  have r0 := lit_row kRule 59 w 0 (Nat.zero_le _) [⟨sS, 5⟩] [.string sS, .int .i64 5] ((Reps.none _ _).snoc (kRule_mkM _ _ _ ⟨sS, 5⟩) rfl) (by simp)
  have r1 := lit_row (Kd.int .i64) 3 (w.alloc sRule7) 0 (Nat.zero_le _) [0, 1] [.int .i64 0, .int .i64 1] (((Reps.none _ _).snoc (p := (0 : Int)) (c := [.int .i64 0]) rfl rfl).snoc (p := (1 : Int)) (c := [.int .i64 1]) rfl rfl) (by simp)
  have r2 := lit_row (Kd.int .i64) 3 ((w.alloc sRule7).alloc sKids0) 0 (Nat.zero_le _) [2] [.int .i64 2] ((Reps.none _ _).snoc (p := (2 : Int)) (c := [.int .i64 2]) rfl rfl) (by simp)
  have r3 := lit_row (Kd.int .i64) 3 (((w.alloc sRule7).alloc sKids0).alloc sKids1) 0 (Nat.zero_le _) [3, 4] [.int .i64 3, .int .i64 4] (((Reps.none _ _).snoc (p := (3 : Int)) (c := [.int .i64 3]) rfl rfl).snoc (p := (4 : Int)) (c := [.int .i64 4]) rfl rfl) (by simp)
  rw [size_alloc] at r1
  rw [size_alloc, size_alloc] at r2
  rw [size_alloc, size_alloc, size_alloc] at r3
  have q1 := Kd.R_alloc (Kd.R_alloc r1 sKids1) sKids2
  have q2 := Kd.R_alloc r2 sKids2
  have r4 := lit_row kNode 57 ((((w.alloc sRule7).alloc sKids0).alloc sKids1).alloc sKids2) 0 (Nat.zero_le _) tree7.nodes
    [.int .i64 7, .string sA, .slice none 0 0, .int .i64 6, .string sS, .slice none 0 0, .int .i64 1, .string ⟨#[]⟩, .slice (some ⟨w.heap.size + 1, 0, none⟩) 2 2, .int .i64 3, .string ⟨#[]⟩, .slice (some ⟨w.heap.size + 1 + 1, 0, none⟩) 1 1, .int .i64 1, .string ⟨#[]⟩, .slice none 0 0, .int .i64 2, .string ⟨#[]⟩, .slice (some ⟨w.heap.size + 1 + 1 + 1, 0, none⟩) 2 2]
    (((((((Reps.none _ _).snoc (kNode_M ⟨7, sA, []⟩ (Kd.R_nil _ _ _ _ _)) rfl).snoc (kNode_M ⟨6, sS, []⟩ (Kd.R_nil _ _ _ _ _)) rfl).snoc (kNode_M ⟨1, ⟨#[]⟩, [0, 1]⟩ q1) rfl).snoc (kNode_M ⟨3, ⟨#[]⟩, [2]⟩ q2) rfl).snoc (kNode_M ⟨1, ⟨#[]⟩, []⟩ (Kd.R_nil _ _ _ _ _)) rfl).snoc (kNode_M ⟨2, ⟨#[]⟩, [3, 4]⟩ r3) rfl) (by decide)
  rw [size_alloc, size_alloc, size_alloc, size_alloc] at r4
  exact ⟨lit_reads (Kd.R_alloc (Kd.R_alloc (Kd.R_alloc (Kd.R_alloc r0 _) _) _) _) rfl, lit_reads r4 rfl⟩
structure Aw7F (w : World) (Y : World) : Prop where
  b25 : Y.heap[w.heap.size + 1 + 1 + 1 + 1 + 1]? = some (.cells #[.slice (some ⟨w.heap.size, 0, none⟩) 1 1, .slice (some ⟨w.heap.size + 1 + 1 + 1 + 1, 0, none⟩) 6 6] 25 (0, 0))
  row : TreeRow Y tree7 (some ⟨w.heap.size, 0, none⟩) 1 (some ⟨w.heap.size + 1 + 1 + 1 + 1, 0, none⟩) 6
  below : Below w.heap.size w Y
theorem aw7_facts (w : World) : Aw7F w ((((((w.alloc (.cells #[.string ⟨#[115]⟩, .int .i64 5] 59)).alloc (.cells #[.int .i64 0, .int .i64 1] 3)).alloc (.cells #[.int .i64 2] 3)).alloc (.cells #[.int .i64 3, .int .i64 4] 3)).alloc (.cells #[.int .i64 7, .string ⟨#[97]⟩, .slice none 0 0, .int .i64 6, .string ⟨#[115]⟩, .slice none 0 0, .int .i64 1, .string ⟨#[]⟩, .slice (some ⟨w.heap.size + 1, 0, none⟩) 2 2, .int .i64 3, .string ⟨#[]⟩, .slice (some ⟨w.heap.size + 1 + 1, 0, none⟩) 1 1, .int .i64 1, .string ⟨#[]⟩, .slice none 0 0, .int .i64 2, .string ⟨#[]⟩, .slice (some ⟨w.heap.size + 1 + 1 + 1, 0, none⟩) 2 2] 57)).alloc (.cells #[.slice (some ⟨w.heap.size, 0, none⟩) 1 1, .slice (some ⟨w.heap.size + 1 + 1 + 1 + 1, 0, none⟩) 6 6] 25)) := by
  have hrow := tree7_row w
  unfold sRule7 sKids0 sKids1 sKids2 sNodes7 sA sS at hrow
  refine ⟨?_, ⟨Kd.C_alloc hrow.1 _, by decide, Kd.C_alloc hrow.2 _, by decide, by decide, by decide⟩, below_alloc (below_alloc (below_alloc (below_alloc (below_alloc (below_alloc (Below.refl _ _) _) _) _) _) _) _⟩
  have h := blk_new (((((w.alloc (.cells #[.string ⟨#[115]⟩, .int .i64 5] 59)).alloc (.cells #[.int .i64 0, .int .i64 1] 3)).alloc (.cells #[.int .i64 2] 3)).alloc (.cells #[.int .i64 3, .int .i64 4] 3)).alloc (.cells #[.int .i64 7, .string ⟨#[97]⟩, .slice none 0 0, .int .i64 6, .string ⟨#[115]⟩, .slice none 0 0, .int .i64 1, .string ⟨#[]⟩, .slice (some ⟨w.heap.size + 1, 0, none⟩) 2 2, .int .i64 3, .string ⟨#[]⟩, .slice (some ⟨w.heap.size + 1 + 1, 0, none⟩) 1 1, .int .i64 1, .string ⟨#[]⟩, .slice none 0 0, .int .i64 2, .string ⟨#[]⟩, .slice (some ⟨w.heap.size + 1 + 1 + 1, 0, none⟩) 2 2] 57)) (.cells #[.slice (some ⟨w.heap.size, 0, none⟩) 1 1, .slice (some ⟨w.heap.size + 1 + 1 + 1 + 1, 0, none⟩) 6 6] 25)
  rw [size_alloc, size_alloc, size_alloc, size_alloc, size_alloc] at h
  exact h
set_option maxRecDepth 100000 in
set_option maxHeartbeats 4000000 in
theorem awake7_any (w : World) : Calls Try.prog 27 #[] w fun e w' => e = .returned (.bool true) ∧ Below w.heap.size w w' := by
  go_enter Try.func27, Try.ntmps27
  go_upto_region 2 with (fail)
  have hF := aw7_facts w
  generalize ((((((w.alloc (.cells #[.string ⟨#[115]⟩, .int .i64 5] 59)).alloc (.cells #[.int .i64 0, .int .i64 1] 3)).alloc (.cells #[.int .i64 2] 3)).alloc (.cells #[.int .i64 3, .int .i64 4] 3)).alloc (.cells #[.int .i64 7, .string ⟨#[97]⟩, .slice none 0 0, .int .i64 6, .string ⟨#[115]⟩, .slice none 0 0, .int .i64 1, .string ⟨#[]⟩, .slice (some ⟨w.heap.size + 1, 0, none⟩) 2 2, .int .i64 3, .string ⟨#[]⟩, .slice (some ⟨w.heap.size + 1 + 1, 0, none⟩) 1 1, .int .i64 1, .string ⟨#[]⟩, .slice none 0 0, .int .i64 2, .string ⟨#[]⟩, .slice (some ⟨w.heap.size + 1 + 1 + 1, 0, none⟩) 2 2] 57)).alloc (.cells #[.slice (some ⟨w.heap.size, 0, none⟩) 1 1, .slice (some ⟨w.heap.size + 1 + 1 + 1 + 1, 0, none⟩) 6 6] 25)) = Y at *
  have HF := Lib.hid hF
  obtain ⟨x0, x1⟩ := cells2 hF.b25
  have hl := blk_lt hF.b25
  clear hF
  go_wp2_with fail
  have h1 := stext_any tree7 (some ⟨w.heap.size, 0, none⟩) 1 (some ⟨w.heap.size + 1 + 1 + 1 + 1, 0, none⟩) 6 Y HF.out.row
  rw [show70] at h1
  refine h1.mono ?_
  rintro e w1 ⟨rfl, hb1⟩
  have HB1 := Lib.hid hb1
  have hg1 := blk_below HF.out.b25 hb1
  obtain ⟨y0, y1⟩ := cells2 hg1
  have hl1 := blk_lt hg1
  have HR1 := Lib.hid (HF.out.row.below hb1)
  clear h1 hb1 hg1 x0 x1 hl
  go_wp2_with fail
  have h2 := tokens_any tree7 (some ⟨w.heap.size, 0, none⟩) 1 (some ⟨w.heap.size + 1 + 1 + 1 + 1, 0, none⟩) 6 0 w1 HR1.out
  rw [tok70] at h2
  refine h2.mono ?_
  rintro e w2 ⟨v, rfl, hv, hb2⟩
  obtain ⟨A2, c2, rfl, hc2, k2⟩ := Kd.R_reads hv
  have HV := Lib.hid k2
  have HB2 := Lib.hid (blw HB1.out hb2)
  clear h2 hb2 hv k2 hc2 y0 y1 hl1
  go_wp2_with fail
  have h3 := stext_any ⟨[], []⟩ none 0 none 0 w2 ⟨Kd.C_nil _ _, Nat.le_refl _, Kd.C_nil _ _, Nat.le_refl _, by simp, by simp⟩
  rw [show71] at h3
  refine h3.mono ?_
  rintro e w3 ⟨rfl, hb3⟩
  have HB3 := Lib.hid (blw HB2.out hb3)
  have HV3 := Lib.hid (Kd.C_below HV.out hb3)
  have hg3 := blk_below HF.out.b25 HB3.out
  obtain ⟨y0, y1⟩ := cells2 hg3
  have hl3 := blk_lt hg3
  have HR3 := Lib.hid (HF.out.row.below HB3.out)
  clear h3 hb3 hg3
  go_wp2_with fail
  have h4 := tokens_any tree7 (some ⟨w.heap.size, 0, none⟩) 1 (some ⟨w.heap.size + 1 + 1 + 1 + 1, 0, none⟩) 6 1 w3 HR3.out
  rw [tok71] at h4
  refine h4.mono ?_
  rintro e w4 ⟨v4, rfl, hv4, hb4⟩
  have HB4 := Lib.hid (blw HF.out.below (blw HB3.out hb4))
  have k4 := Kd.C_below HV3.out hb4
  obtain ⟨ad, z0, had, hz0, e0⟩ := at_string k4 0 (by decide)
  obtain ⟨ad', z5, had', hz5, e5⟩ := at_string k4 5 (by decide)
  obtain rfl : z0 = ⟨#[40]⟩ := by simpa using hz0.symm
  obtain rfl : z5 = ⟨#[124]⟩ := by simpa using hz5.symm
  subst had
  obtain rfl : ad = ad' := by injection had'
  have e0' : w4.cell? ad = some (.string ⟨#[40]⟩) := by have h := e0; simpa [Addr.add] using h
  have e0 := e0'
  have e5' := e5
  simp [Addr.add] at e5'
  clear h4 hb4 hv4 k4 hz0 hz5 had' y0 y1 hl3
  go_wp2_with fail
  go_ret
  exact ⟨rfl, HB4.out⟩
end Go.Proofs.Ytoiejgmfgcdniaa
