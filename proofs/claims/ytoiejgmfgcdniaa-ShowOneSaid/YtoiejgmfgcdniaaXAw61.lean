import Derived.Test.YtoiejgmfgcdniaaXOwn3
import Derived.Test.YtoiejgmfgcdniaaXRead21
set_option linter.unusedVariables false
set_option linter.unusedSimpArgs false
namespace Go.Proofs.Ytoiejgmfgcdniaa
open Go.RowKit Go.Proofs.YtoiejgmfgcdniaaW.PrintWords

/-! ### awake of the rules' statements -/
def tree6 : Tree := ⟨[⟨sS, 4⟩], [⟨7, sA, []⟩, ⟨6, sS, []⟩, ⟨1, ⟨#[]⟩, [0, 1]⟩, ⟨1, ⟨#[]⟩, []⟩, ⟨2, ⟨#[]⟩, [2, 3]⟩]⟩
theorem read60 : readP [115, 58, 32, 39, 97, 39, 32, 115, 32, 124, 32, 59] = (tree6, 0, 0) := by decide +kernel
theorem read61 : readP [115, 58, 32, 39, 97, 39] = (noTree, 6, 2) := by decide +kernel
theorem read62 : readP [115, 58, 32, 116, 32, 59] = (noTree, 3, 6) := by decide +kernel
theorem right60 : tree6.right = true := by decide +kernel
theorem right61 : (⟨[], []⟩ : Tree).right = false := by decide +kernel
theorem same60 : tree6.same tree6 = true := by decide +kernel
theorem same61 : tree6.same ⟨[], []⟩ = false := by decide +kernel
def dRule6 : Obj := .cells #[.string sS, .int .i64 4] 109
def dKids0 : Obj := .cells #[.int .i64 0, .int .i64 1] 3
def dKids1 : Obj := .cells #[.int .i64 2, .int .i64 3] 3
def dNodes6 (b1 b2 : Nat) : Obj := .cells #[.int .i64 7, .string sA, .slice none 0 0, .int .i64 6, .string sS, .slice none 0 0, .int .i64 1, .string ⟨#[]⟩, .slice (some ⟨b1, 0, none⟩) 2 2, .int .i64 1, .string ⟨#[]⟩, .slice none 0 0, .int .i64 2, .string ⟨#[]⟩, .slice (some ⟨b2, 0, none⟩) 2 2] 110
structure Tree6 (w : World) (A0 A1 : Option Addr) : Prop where
  r0 : Kd.C kRule w A0 tree6.rules.length tree6.rules
  r1 : Kd.C kNode w A1 tree6.nodes.length tree6.nodes
theorem tree6_row (w : World) : Tree6 ((((w.alloc dRule6).alloc dKids0).alloc dKids1).alloc (dNodes6 (w.heap.size + 1) (w.heap.size + 2))) (some ⟨w.heap.size, 0, none⟩) (some ⟨w.heap.size + 3, 0, none⟩) := by
  have r0 := lit_row kRule 109 w 0 (Nat.zero_le _) [⟨sS, 4⟩] [.string sS, .int .i64 4] ((Reps.none _ _).snoc (kRule_mkM _ _ _ ⟨sS, 4⟩) rfl) (by simp)
  have r1 := lit_row (Kd.int .i64) 3 (w.alloc dRule6) 0 (Nat.zero_le _) [0, 1] [.int .i64 0, .int .i64 1] (((Reps.none _ _).snoc (p := (0 : Int)) (c := [.int .i64 0]) rfl rfl).snoc (p := (1 : Int)) (c := [.int .i64 1]) rfl rfl) (by simp)
  have r2 := lit_row (Kd.int .i64) 3 ((w.alloc dRule6).alloc dKids0) 0 (Nat.zero_le _) [2, 3] [.int .i64 2, .int .i64 3] (((Reps.none _ _).snoc (p := (2 : Int)) (c := [.int .i64 2]) rfl rfl).snoc (p := (3 : Int)) (c := [.int .i64 3]) rfl rfl) (by simp)
  rw [size_alloc] at r1
  rw [size_alloc, size_alloc] at r2
  have q1 := Kd.R_alloc r1 dKids1
  have r3 := lit_row kNode 110 (((w.alloc dRule6).alloc dKids0).alloc dKids1) 0 (Nat.zero_le _) tree6.nodes
    [.int .i64 7, .string sA, .slice none 0 0, .int .i64 6, .string sS, .slice none 0 0, .int .i64 1, .string ⟨#[]⟩, .slice (some ⟨w.heap.size + 1, 0, none⟩) 2 2, .int .i64 1, .string ⟨#[]⟩, .slice none 0 0, .int .i64 2, .string ⟨#[]⟩, .slice (some ⟨w.heap.size + 2, 0, none⟩) 2 2]
    ((((((Reps.none _ _).snoc (kNode_M ⟨7, sA, []⟩ (Kd.R_nil _ _ _ _ _)) rfl).snoc (kNode_M ⟨6, sS, []⟩ (Kd.R_nil _ _ _ _ _)) rfl).snoc (kNode_M ⟨1, ⟨#[]⟩, [0, 1]⟩ q1) rfl).snoc (kNode_M ⟨1, ⟨#[]⟩, []⟩ (Kd.R_nil _ _ _ _ _)) rfl).snoc (kNode_M ⟨2, ⟨#[]⟩, [2, 3]⟩ r2) rfl) (by decide)
  rw [size_alloc, size_alloc, size_alloc] at r3
  exact ⟨lit_reads (Kd.R_alloc (Kd.R_alloc (Kd.R_alloc r0 _) _) _) rfl, lit_reads r3 rfl⟩
structure AwF (w1 : World) (A0 : Option Addr) (c0 : Nat) (A1 : Option Addr) (c1 : Nat) (Y : World) : Prop where
  b25 : Y.heap[w1.heap.size]? = some (.cells #[.slice A0 1 c0, .slice A1 5 c1] 25 (0, 0))
  b48 : Y.heap[w1.heap.size + 1 + 1 + 1 + 1 + 1]? = some (.cells #[.slice (some ⟨w1.heap.size + 1, 0, none⟩) 1 1, .slice (some ⟨w1.heap.size + 1 + 1 + 1 + 1, 0, none⟩) 5 5] 48 (0, 0))
  row : Tree6 Y (some ⟨w1.heap.size + 1, 0, none⟩) (some ⟨w1.heap.size + 1 + 1 + 1 + 1, 0, none⟩)
  below : Below w1.heap.size w1 Y
theorem aw6_facts (w1 : World) (A0 : Option Addr) (c0 : Nat) (A1 : Option Addr) (c1 : Nat) : AwF w1 A0 c0 A1 c1
    ((((((w1.alloc (.cells #[.slice A0 1 c0, .slice A1 5 c1] 25)).alloc (.cells #[.string ⟨#[115]⟩, .int .i64 4] 109)).alloc (.cells #[.int .i64 0, .int .i64 1] 3)).alloc (.cells #[.int .i64 2, .int .i64 3] 3)).alloc (.cells #[.int .i64 7, .string ⟨#[97]⟩, .slice none 0 0, .int .i64 6, .string ⟨#[115]⟩, .slice none 0 0, .int .i64 1, .string ⟨#[]⟩, .slice (some ⟨w1.heap.size + 1 + 1, 0, none⟩) 2 2, .int .i64 1, .string ⟨#[]⟩, .slice none 0 0, .int .i64 2, .string ⟨#[]⟩, .slice (some ⟨w1.heap.size + 1 + 1 + 1, 0, none⟩) 2 2] 110)).alloc (.cells #[.slice (some ⟨w1.heap.size + 1, 0, none⟩) 1 1, .slice (some ⟨w1.heap.size + 1 + 1 + 1 + 1, 0, none⟩) 5 5] 48)) := by
  have hrow := tree6_row (w1.alloc (.cells #[.slice A0 1 c0, .slice A1 5 c1] 25))
  rw [size_alloc] at hrow
  unfold dRule6 dKids0 dKids1 dNodes6 sA sS at hrow
  refine ⟨blk_alloc (blk_alloc (blk_alloc (blk_alloc (blk_alloc (blk_new w1 _) _) _) _) _) _, ?_, ⟨Kd.C_alloc hrow.r0 _, Kd.C_alloc hrow.r1 _⟩, below_alloc (below_alloc (below_alloc (below_alloc (below_alloc (below_alloc (Below.refl _ _) _) _) _) _) _) _⟩
  have h := blk_new (((((w1.alloc (.cells #[.slice A0 1 c0, .slice A1 5 c1] 25)).alloc (.cells #[.string ⟨#[115]⟩, .int .i64 4] 109)).alloc (.cells #[.int .i64 0, .int .i64 1] 3)).alloc (.cells #[.int .i64 2, .int .i64 3] 3)).alloc (.cells #[.int .i64 7, .string ⟨#[97]⟩, .slice none 0 0, .int .i64 6, .string ⟨#[115]⟩, .slice none 0 0, .int .i64 1, .string ⟨#[]⟩, .slice (some ⟨w1.heap.size + 1 + 1, 0, none⟩) 2 2, .int .i64 1, .string ⟨#[]⟩, .slice none 0 0, .int .i64 2, .string ⟨#[]⟩, .slice (some ⟨w1.heap.size + 1 + 1 + 1, 0, none⟩) 2 2] 110)) (.cells #[.slice (some ⟨w1.heap.size + 1, 0, none⟩) 1 1, .slice (some ⟨w1.heap.size + 1 + 1 + 1 + 1, 0, none⟩) 5 5] 48)
  rw [size_alloc, size_alloc, size_alloc, size_alloc, size_alloc] at h
  exact h
set_option maxRecDepth 100000 in
set_option maxHeartbeats 4000000 in
theorem awake6_any (w : World) : Calls Try.prog 19 #[] w fun e w' => e = .returned (.bool true) ∧ Below w.heap.size w w' := by
  go_enter Try.func19, Try.ntmps19
  go_wp2_with fail
  refine (read_any ⟨#[115, 58, 32, 39, 97, 39, 32, 115, 32, 124, 32, 59]⟩ w).mono ?_
  intro e w1 hp
  rw [show (⟨#[115, 58, 32, 39, 97, 39, 32, 115, 32, 124, 32, 59]⟩ : ByteArray).data.toList = [115, 58, 32, 39, 97, 39, 32, 115, 32, 124, 32, 59] from rfl, read60] at hp
  obtain ⟨A0, c0, A1, c1, he, l0, r0, l1, r1, hb1⟩ := hp
  have he : e = .returned (.tuple #[.agg #[.slice A0 1 c0, .slice A1 5 c1], .int .i64 0, .int .i64 0]) := he
  subst he
  have HR0 : Hid (Kd.C kRule w1 A0 tree6.rules.length tree6.rules) := Lib.hid r0
  have HR1 : Hid (Kd.C kNode w1 A1 tree6.nodes.length tree6.nodes) := Lib.hid r1
  have HL0 : Hid (tree6.rules.length ≤ c0) := Lib.hid l0
  have HL1 : Hid (tree6.nodes.length ≤ c1) := Lib.hid l1
  have HB1 := Lib.hid hb1
  clear r0 r1 l0 l1 hb1
  go_upto_region 3 with (fail)
  have hF := aw6_facts w1 A0 c0 A1 c1
  generalize ((((((w1.alloc (.cells #[.slice A0 1 c0, .slice A1 5 c1] 25)).alloc (.cells #[.string ⟨#[115]⟩, .int .i64 4] 109)).alloc (.cells #[.int .i64 0, .int .i64 1] 3)).alloc (.cells #[.int .i64 2, .int .i64 3] 3)).alloc (.cells #[.int .i64 7, .string ⟨#[97]⟩, .slice none 0 0, .int .i64 6, .string ⟨#[115]⟩, .slice none 0 0, .int .i64 1, .string ⟨#[]⟩, .slice (some ⟨w1.heap.size + 1 + 1, 0, none⟩) 2 2, .int .i64 1, .string ⟨#[]⟩, .slice none 0 0, .int .i64 2, .string ⟨#[]⟩, .slice (some ⟨w1.heap.size + 1 + 1 + 1, 0, none⟩) 2 2] 110)).alloc (.cells #[.slice (some ⟨w1.heap.size + 1, 0, none⟩) 1 1, .slice (some ⟨w1.heap.size + 1 + 1 + 1 + 1, 0, none⟩) 5 5] 48)) = Y at *
  have HF := Lib.hid hF
  clear hF
  go_wp2_with fail
  refine (read_any ⟨#[115, 58, 32, 39, 97, 39]⟩ Y).mono ?_
  intro e w2 hp
  rw [show (⟨#[115, 58, 32, 39, 97, 39]⟩ : ByteArray).data.toList = [115, 58, 32, 39, 97, 39] from rfl, read61] at hp
  obtain ⟨A2, c2, A3, c3, he, _, _, _, _, hb2⟩ := hp
  have he : e = .returned (.tuple #[.agg #[.slice A2 0 c2, .slice A3 0 c3], .int .i64 6, .int .i64 2]) := he
  subst he
  have HB2 := Lib.hid hb2
  clear hb2
  go_wp2_with fail
  have hb22 := below_alloc (Below.refl w2.heap.size w2) (.cells #[.slice A2 0 c2, .slice A3 0 c3] 25)
  generalize w2.alloc (.cells #[.slice A2 0 c2, .slice A3 0 c3] 25) = V2 at *
  have HB22 := Lib.hid (blw HB2.out hb22)
  clear hb22
  refine (read_any ⟨#[115, 58, 32, 116, 32, 59]⟩ V2).mono ?_
  intro e w3 hp
  rw [show (⟨#[115, 58, 32, 116, 32, 59]⟩ : ByteArray).data.toList = [115, 58, 32, 116, 32, 59] from rfl, read62] at hp
  obtain ⟨A4, c4, A5, c5, he, _, _, _, _, hb3⟩ := hp
  have he : e = .returned (.tuple #[.agg #[.slice A4 0 c4, .slice A5 0 c5], .int .i64 3, .int .i64 6]) := he
  subst he
  have HB3 := Lib.hid (blw HB22.out hb3)
  clear hb3
  go_upto_region 5 with (fail)
  have hb33 := below_alloc (Below.refl w3.heap.size w3) (.cells #[.slice A4 0 c4, .slice A5 0 c5] 25)
  generalize w3.alloc (.cells #[.slice A4 0 c4, .slice A5 0 c5] 25) = V3 at *
  have HB33 := Lib.hid (blw HB3.out hb33)
  have HVB := Lib.hid (blw HB1.out (blw HF.out.below HB33.out))
  obtain ⟨b25, b48, ⟨t0, t1⟩, bY⟩ := HF.out
  have hY := blw bY HB33.out
  have B25 := Lib.hid (blk_below b25 HB33.out)
  have B48 := Lib.hid (blk_below b48 HB33.out)
  have T0 := Lib.hid (Kd.C_below t0 HB33.out)
  have T1 := Lib.hid (Kd.C_below t1 HB33.out)
  have R0 := Lib.hid (Kd.C_below HR0.out hY)
  have R1 := Lib.hid (Kd.C_below HR1.out hY)
  clear hb33 HB22 HB2 HB3 b25 b48 t0 t1 bY hY HF HB33 he
  obtain ⟨x0, x1⟩ := cells2 B25.out
  obtain ⟨y0, y1⟩ := cells2 B48.out
  generalize w1.heap.size + 1 + 1 + 1 + 1 + 1 = p5 at *
  generalize w1.heap.size + 1 + 1 + 1 + 1 = p4 at *
  generalize w1.heap.size + 1 = p1 at *
  generalize w1.heap.size = p0 at *
  have HOWN : Hid (∀ W, Below V3.heap.size V3 W → Calls Try.prog 23 #[.agg #[.slice A0 1 c0, .slice A1 5 c1]] W (OwnPost tree6 W)) := Lib.hid (fun W h => own_any tree6 A0 c0 A1 c1 W (Kd.C_below R0.out h) (Kd.C_below R1.out h) (by decide) (by decide))
  have HSM : Hid (∀ W A c A' c', Below V3.heap.size V3 W → Kd.C kRule W A tree6.rules.length tree6.rules → Kd.C kNode W A' tree6.nodes.length tree6.nodes → Calls Try.prog 22 #[.agg #[.slice A 1 c, .slice A' 5 c'], .agg #[.slice (some ⟨p1, 0, none⟩) 1 1, .slice (some ⟨p4, 0, none⟩) 5 5]] W fun e w' => e = .returned (.bool true) ∧ Below W.heap.size W w') :=
    Lib.hid (fun W A c A' c' h h0 h1 => by have := rsame_any tree6 tree6 A A' (some ⟨p1, 0, none⟩) (some ⟨p4, 0, none⟩) c c' 1 5 W h0 h1 (Kd.C_below T0.out h) (Kd.C_below T1.out h); rw [same60] at this; exact this)
  have HRT : Hid (∀ W, Below V3.heap.size V3 W → Calls Try.prog 16 #[.agg #[.slice A0 1 c0, .slice A1 5 c1]] W fun e w' => e = .returned (.bool true) ∧ Below W.heap.size W w') :=
    Lib.hid (fun W h => by have := right_any tree6 A0 c0 A1 c1 W (Kd.C_below R0.out h) HL0.out (Kd.C_below R1.out h) HL1.out (by decide); rw [right60] at this; exact this)
  have HRN : Hid (∀ W, Calls Try.prog 16 #[.agg #[.slice none 0 0, .slice none 0 0]] W fun e w' => e = .returned (.bool false) ∧ Below W.heap.size W w') :=
    Lib.hid (fun W => by have := right_any ⟨[], []⟩ none 0 none 0 W (Kd.C_nil _ _) (Nat.le_refl _) (Kd.C_nil _ _) (Nat.le_refl _) (by simp); rw [right61] at this; exact this)
  have HSS : Hid (∀ W, Below V3.heap.size V3 W → Calls Try.prog 25 #[.agg #[.slice A0 1 c0, .slice A1 5 c1], .agg #[.slice A0 1 c0, .slice A1 5 c1]] W fun e w' => e = .returned (.bool true) ∧ Below W.heap.size W w') :=
    Lib.hid (fun W h => by have := same_any tree6 tree6 A0 A1 A0 A1 c0 c1 c0 c1 W (Kd.C_below R0.out h) (Kd.C_below R1.out h) (Kd.C_below R0.out h) (Kd.C_below R1.out h); rw [same60] at this; exact this)
  have HSE : Hid (∀ W, Below V3.heap.size V3 W → Calls Try.prog 25 #[.agg #[.slice A0 1 c0, .slice A1 5 c1], .agg #[.slice none 0 0, .slice none 0 0]] W fun e w' => e = .returned (.bool false) ∧ Below W.heap.size W w') :=
    Lib.hid (fun W h => by have := same_any tree6 ⟨[], []⟩ A0 A1 none none c0 c1 0 0 W (Kd.C_below R0.out h) (Kd.C_below R1.out h) (Kd.C_nil _ _) (Kd.C_nil _ _); rw [same61] at this; exact this)
  have HD := Lib.hid (below_drew (Below.refl V3.heap.size V3))
  go_region_held3 (fun w' => w'.cell? ⟨p0, 0, none⟩ = some (.slice A0 1 c0) ∧ w'.cell? ⟨p0, 1, none⟩ = some (.slice A1 5 c1) ∧ w'.cell? ⟨p5, 0, none⟩ = some (.slice (some ⟨p1, 0, none⟩) 1 1) ∧ w'.cell? ⟨p5, 1, none⟩ = some (.slice (some ⟨p4, 0, none⟩) 5 5)) (go_keep)
    (first
      | (go_at_call 23; refine (HOWN.out _ HD.out).mono ?_; intro e w4 hp; obtain ⟨X0, d0, X1, d1, he, _, hx0, _, hx1, hb4⟩ := hp; have he : e = .returned (.agg #[.slice X0 1 d0, .slice X1 5 d1]) := he; subst he; have HX0 := Lib.hid hx0; have HX1 := Lib.hid hx1; have HB4 := Lib.hid (blw HD.out hb4); have m0 := pw_cell_below HB4.out x0; have m1 := pw_cell_below HB4.out x1; have m2 := pw_cell_below HB4.out y0; have m3 := pw_cell_below HB4.out y1; clear hx0 hx1 hb4)
      | (go_at_call 22; refine (HSM.out w4 X0 d0 X1 d1 HB4.out HX0.out HX1.out).mono ?_; rintro e w5 ⟨rfl, hb5⟩; have HB5 := Lib.hid (blw HB4.out hb5); have n0 := pw_cell_below HB5.out x0; have n1 := pw_cell_below HB5.out x1; have n2 := pw_cell_below HB5.out y0; have n3 := pw_cell_below HB5.out y1; clear hb5)
      | (go_at_call 16; (with_reducible refine (HRT.out w5 HB5.out).mono ?_); rintro e w6 ⟨rfl, hb6⟩; have HB6 := Lib.hid (blw HB5.out hb6); have o0 := pw_cell_below HB6.out x0; have o1 := pw_cell_below HB6.out x1; have o2 := pw_cell_below HB6.out y0; have o3 := pw_cell_below HB6.out y1; clear hb6)
      | (go_at_call 16; (with_reducible refine (HRN.out w6).mono ?_); rintro e w7 ⟨rfl, hb7⟩; have HB7 := Lib.hid (blw HB6.out hb7); have q0 := pw_cell_below HB7.out x0; have q1 := pw_cell_below HB7.out x1; have q2 := pw_cell_below HB7.out y0; have q3 := pw_cell_below HB7.out y1; clear hb7)
      | (go_at_call 25; (with_reducible refine (HSS.out w7 HB7.out).mono ?_); rintro e w8 ⟨rfl, hb8⟩; have HB8 := Lib.hid (blw HB7.out hb8); have r0 := pw_cell_below HB8.out x0; have r1 := pw_cell_below HB8.out x1; have r2 := pw_cell_below HB8.out y0; have r3 := pw_cell_below HB8.out y1; clear hb8)
      | (go_at_call 25; (with_reducible refine (HSE.out w8 HB8.out).mono ?_); rintro e w9 ⟨rfl, hb9⟩; have HB9 := Lib.hid (blw HB8.out hb9); have u0 := pw_cell_below HB9.out x0; have u1 := pw_cell_below HB9.out x1; have u2 := pw_cell_below HB9.out y0; have u3 := pw_cell_below HB9.out y1; clear hb9))
  go_wp2_with fail
  go_ret
  exact ⟨rfl, blw HVB.out HB9.out⟩
end Go.Proofs.Ytoiejgmfgcdniaa
