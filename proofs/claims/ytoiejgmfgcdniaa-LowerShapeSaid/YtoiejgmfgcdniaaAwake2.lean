import Derived.Test.YtoiejgmfgcdniaaAwake1
set_option linter.unusedVariables false
set_option linter.unusedSimpArgs false
namespace Go.Proofs.Ytoiejgmfgcdniaa
open Go.RowKit Go.Proofs.YtoiejgmfgcdniaaW.PrintWords

/-! ### awake -/
theorem lit_row {α : Type} (d : Kd α) (e : Nat) (W : World) (base : Nat) (hb : base ≤ W.heap.size) (xs : List α) (inner : List Value) (hi : Reps (d.M W base (fun _ => True)) d.sz xs inner) (hl : xs.length ≤ 1000) :
    d.R e (W.alloc (.cells inner.toArray e)) base (fun _ => True) (.slice (some ⟨W.heap.size, 0, none⟩) xs.length xs.length) xs := by
  refine ⟨fun _ _ => trivial, inner, ?_, ?_⟩
  · have h2 := World.ownsRow_lit (base := base) (e := e) (size := d.sz) W inner.toArray xs.length hb (by unfold maxLen; omega) (by simpa using hi.1)
    simpa using h2
  · refine hi.imp_ (fun p c hp => d.M_mono (fun k hk => ⟨trivial, fun he => ?_⟩) (Kd.M_below (Kd.M_bound d hp) (below_alloc (Below.refl _ _) _)))
    have h3 : k = W.heap.size := by simpa [Value.ownBlock] using he
    have := hk.2.2.1
    omega
theorem kNode_M {w : World} {base : Nat} {ok : Nat → Prop} (x : Node) {v : Value} (h : (Kd.int .i64).R 3 w base ok v x.kids) : kNode.M w base ok x [.int .i64 x.kind, .string x.name, v] := ⟨[.int .i64 x.kind], [.string x.name, v], rfl, rfl, ⟨[.string x.name], [v], rfl, rfl, v, rfl, h⟩⟩
def sA : ByteArray := ⟨#[97]⟩
def sB : ByteArray := ⟨#[98]⟩
def sS : ByteArray := ⟨#[115]⟩
def tree0 : Tree := ⟨[⟨sS, 3⟩], [⟨7, sA, []⟩, ⟨3, ⟨#[]⟩, [0]⟩, ⟨7, sB, []⟩, ⟨1, ⟨#[]⟩, [1, 2]⟩]⟩
def want0 : Gram := ⟨2, 2, 0, [⟨0, [⟨true, 1⟩, ⟨false, 1⟩]⟩, ⟨1, [⟨false, 0⟩, ⟨true, 1⟩]⟩, ⟨1, []⟩]⟩
theorem lower0 : lowerP tree0 = (want0, [sA, sB], 0) := by decide +kernel
theorem lowerE : lowerP ⟨[], []⟩ = (⟨0, 0, 0, []⟩, [], 1) := by decide +kernel
def cRule0 : Obj := .cells #[.string sS, .int .i64 3] 59
def cKids0 : Obj := .cells #[.int .i64 0] 3
def cKids1 : Obj := .cells #[.int .i64 1, .int .i64 2] 3
def cNodes0 (b1 b2 : Nat) : Obj := .cells #[.int .i64 7, .string sA, .slice none 0 0, .int .i64 3, .string ⟨#[]⟩, .slice (some ⟨b1, 0, none⟩) 1 1, .int .i64 7, .string sB, .slice none 0 0, .int .i64 1, .string ⟨#[]⟩, .slice (some ⟨b2, 0, none⟩) 2 2] 57
theorem lit_reads {α : Type} {d : Kd α} {e base g n c : Nat} {w : World} {xs : List α} (h : d.R e w base (fun _ => True) (.slice (some ⟨g, 0, none⟩) n c) xs) (hn : n = xs.length) : d.C w (some ⟨g, 0, none⟩) xs.length xs := by
  obtain ⟨A, c', h1, _, h3⟩ := Kd.R_reads h
  injection h1 with h1
  rw [h1]
  exact h3
theorem tree0_row (w : World) : TreeRow ((((w.alloc cRule0).alloc cKids0).alloc cKids1).alloc (cNodes0 (w.heap.size + 1) (w.heap.size + 2))) tree0 (some ⟨w.heap.size, 0, none⟩) 1 (some ⟨w.heap.size + 3, 0, none⟩) 4 := by
  have r0 := lit_row kRule 59 w 0 (Nat.zero_le _) [⟨sS, 3⟩] [.string sS, .int .i64 3] ((Reps.none _ _).snoc (kRule_mkM _ _ _ ⟨sS, 3⟩) rfl) (by simp)
  have r1 := lit_row (Kd.int .i64) 3 (w.alloc cRule0) 0 (Nat.zero_le _) [0] [.int .i64 0] ((Reps.none _ _).snoc rfl rfl) (by simp)
  have r2 := lit_row (Kd.int .i64) 3 ((w.alloc cRule0).alloc cKids0) 0 (Nat.zero_le _) [1, 2] [.int .i64 1, .int .i64 2] (((Reps.none _ _).snoc (p := (1 : Int)) (c := [.int .i64 1]) rfl rfl).snoc (p := (2 : Int)) (c := [.int .i64 2]) rfl rfl) (by simp)
  rw [size_alloc] at r1
  rw [size_alloc, size_alloc] at r2
  have q1 := Kd.R_alloc r1 cKids1
  have r3 := lit_row kNode 57 (((w.alloc cRule0).alloc cKids0).alloc cKids1) 0 (Nat.zero_le _) tree0.nodes
    [.int .i64 7, .string sA, .slice none 0 0, .int .i64 3, .string ⟨#[]⟩, .slice (some ⟨w.heap.size + 1, 0, none⟩) 1 1, .int .i64 7, .string sB, .slice none 0 0, .int .i64 1, .string ⟨#[]⟩, .slice (some ⟨w.heap.size + 2, 0, none⟩) 2 2]
    (((((Reps.none _ _).snoc (kNode_M ⟨7, sA, []⟩ (Kd.R_nil _ _ _ _ _)) rfl).snoc (kNode_M ⟨3, ⟨#[]⟩, [0]⟩ q1) rfl).snoc (kNode_M ⟨7, sB, []⟩ (Kd.R_nil _ _ _ _ _)) rfl).snoc (kNode_M ⟨1, ⟨#[]⟩, [1, 2]⟩ r2) rfl) (by decide)
  rw [size_alloc, size_alloc, size_alloc] at r3
  refine ⟨lit_reads (Kd.R_alloc (Kd.R_alloc (Kd.R_alloc r0 _) _) _) rfl, by decide, lit_reads r3 rfl, by decide, by decide, by decide⟩
theorem tree_empty (w : World) : TreeRow w ⟨[], []⟩ none 0 none 0 := by
  obtain ⟨A, c, h1, h2, h3⟩ := Kd.R_reads (Kd.R_nil kRule 0 w 0 (fun _ => True))
  obtain ⟨A', c', h1', h2', h3'⟩ := Kd.R_reads (Kd.R_nil kNode 0 w 0 (fun _ => True))
  injection h1 with h1
  injection h1' with h1'
  subst h1 h1'
  exact ⟨h3, Nat.le_refl _, h3', Nat.le_refl _, by simp, by simp⟩
theorem want0_row (V : World) : Kd.C kProd (((V.alloc (.cells #[.bool true, .int .i64 1, .bool false, .int .i64 1] 41)).alloc (.cells #[.bool false, .int .i64 0, .bool true, .int .i64 1] 41)).alloc
    (.cells #[.int .i64 0, .slice (some ⟨V.heap.size, 0, none⟩) 2 2, .int .i64 1, .slice (some ⟨V.heap.size + 1, 0, none⟩) 2 2, .int .i64 1, .slice none 0 0] 39)) (some ⟨V.heap.size + 2, 0, none⟩) want0.prods.length want0.prods := by
  have r1 := sym_row2 V 0 (Nat.zero_le _) ⟨true, 1⟩ ⟨false, 1⟩
  have r2 := sym_row2 (V.alloc (.cells #[.bool true, .int .i64 1, .bool false, .int .i64 1] 41)) 0 (Nat.zero_le _) ⟨false, 0⟩ ⟨true, 1⟩
  rw [size_alloc] at r2
  have q1 := Kd.R_alloc r1 (.cells #[.bool false, .int .i64 0, .bool true, .int .i64 1] 41)
  have r3 := lit_row kProd 39 ((V.alloc (.cells #[.bool true, .int .i64 1, .bool false, .int .i64 1] 41)).alloc (.cells #[.bool false, .int .i64 0, .bool true, .int .i64 1] 41)) 0 (Nat.zero_le _) want0.prods
    [.int .i64 0, .slice (some ⟨V.heap.size, 0, none⟩) 2 2, .int .i64 1, .slice (some ⟨V.heap.size + 1, 0, none⟩) 2 2, .int .i64 1, .slice none 0 0]
    ((((Reps.none _ _).snoc (kProd_M ⟨0, [⟨true, 1⟩, ⟨false, 1⟩]⟩ q1) rfl).snoc (kProd_M ⟨1, [⟨false, 0⟩, ⟨true, 1⟩]⟩ r2) rfl).snoc (kProd_M ⟨1, []⟩ (Kd.R_nil _ _ _ _ _)) rfl) (by decide)
  rw [size_alloc, size_alloc] at r3
  exact lit_reads r3 rfl
set_option maxRecDepth 100000 in
set_option maxHeartbeats 2000000 in
theorem awake_any : AwakeSaid 13 := by
  intro w
  go_enter Try.func13, Try.ntmps13
  go_wp2_with fail
  have ht := tree0_row w
  have hb := (below_alloc (below_alloc (below_alloc (below_alloc (Below.refl w.heap.size w) cRule0) cKids0) cKids1) (cNodes0 (w.heap.size + 1) (w.heap.size + 2)))
  unfold cRule0 cKids0 cKids1 cNodes0 sA sB sS at ht hb
  rw [show w.heap.size + 1 + 1 + 1 = w.heap.size + 3 from rfl, show w.heap.size + 1 + 1 = w.heap.size + 2 from rfl]
  generalize (((w.alloc (.cells #[.string ⟨#[115]⟩, .int .i64 3] 59)).alloc (.cells #[.int .i64 0] 3)).alloc (.cells #[.int .i64 1, .int .i64 2] 3)).alloc
    (.cells #[.int .i64 7, .string ⟨#[97]⟩, .slice none 0 0, .int .i64 3, .string ⟨#[]⟩, .slice (some ⟨w.heap.size + 1, 0, none⟩) 1 1, .int .i64 7, .string ⟨#[98]⟩, .slice none 0 0, .int .i64 1, .string ⟨#[]⟩, .slice (some ⟨w.heap.size + 2, 0, none⟩) 2 2] 57) = W at *
  have HB := Lib.hid hb
  have HT := Lib.hid ht
  clear ht hb
  refine (lower_any tree0 _ 1 _ 4 _ (HT.out.below (below_alloc (Below.refl _ _) _))).mono ?_
  intro e w1 hp
  rw [lower0] at hp
  obtain ⟨Ap, cp, Av, cv, rfl, hcp, hPr, hNm, hcv, hb1⟩ := hp.open_
  have HB1 := Lib.hid (blw HB.out (blw (below_alloc (Below.refl _ _) _) hb1))
  have HPR := Lib.hid hPr
  have HNM := Lib.hid hNm
  clear hp hb1 hPr hNm hcp hcv
  simp only [want0]
  go_wp2_with fail
  refine (lower_any ⟨[], []⟩ none 0 none 0 _ (tree_empty _)).mono ?_
  intro e w2 hp
  rw [lowerE] at hp
  obtain ⟨Ap2, cp2, Av2, cv2, rfl, _, _, _, _, hb2⟩ := hp.open_
  obtain ⟨hg2, hb3, hlt2⟩ := bel1 hb2
  have HB2 := Lib.hid (blw HB1.out hb3)
  have HB12 := Lib.hid hb3
  have HG2 := Lib.hid hg2
  obtain ⟨i0, i1, i2, i3⟩ := cells4 hg2
  clear hp hb2 hb3 hg2
  simp only
  go_upto_region 6 with (fail)
  clear i0 i1 i2 i3
  have hbV := bel2n (w := w2) (.cells #[.int .i64 0, .int .i64 0, .int .i64 0, .slice Ap2 0 cp2] 30) (.cells #[.bool true, .int .i64 1] 41)
  have hsV : ((w2.alloc (.cells #[.int .i64 0, .int .i64 0, .int .i64 0, .slice Ap2 0 cp2] 30)).alloc (.cells #[.bool true, .int .i64 1] 41)).heap.size = w2.heap.size + 2 := by rw [size_alloc, size_alloc]
  simp only [show w2.heap.size + 1 + 1 = w2.heap.size + 2 from rfl]
  generalize (w2.alloc (.cells #[.int .i64 0, .int .i64 0, .int .i64 0, .slice Ap2 0 cp2] 30)).alloc (.cells #[.bool true, .int .i64 1] 41) = V at *
  have hrV := want0_row V
  have hbX := below_alloc (below_alloc (below_alloc (Below.refl V.heap.size V) (.cells #[.bool true, .int .i64 1, .bool false, .int .i64 1] 41)) (.cells #[.bool false, .int .i64 0, .bool true, .int .i64 1] 41))
    (.cells #[.int .i64 0, .slice (some ⟨V.heap.size, 0, none⟩) 2 2, .int .i64 1, .slice (some ⟨V.heap.size + 1, 0, none⟩) 2 2, .int .i64 1, .slice none 0 0] 39)
  have hsX : (((V.alloc (.cells #[.bool true, .int .i64 1, .bool false, .int .i64 1] 41)).alloc (.cells #[.bool false, .int .i64 0, .bool true, .int .i64 1] 41)).alloc
    (.cells #[.int .i64 0, .slice (some ⟨V.heap.size, 0, none⟩) 2 2, .int .i64 1, .slice (some ⟨V.heap.size + 1, 0, none⟩) 2 2, .int .i64 1, .slice none 0 0] 39)).heap.size = V.heap.size + 3 := by rw [size_alloc, size_alloc, size_alloc]
  rw [hsV] at hrV hbX hsX
  generalize ((V.alloc (.cells #[.bool true, .int .i64 1, .bool false, .int .i64 1] 41)).alloc (.cells #[.bool false, .int .i64 0, .bool true, .int .i64 1] 41)).alloc
    (.cells #[.int .i64 0, .slice (some ⟨w2.heap.size + 2, 0, none⟩) 2 2, .int .i64 1, .slice (some ⟨w2.heap.size + 2 + 1, 0, none⟩) 2 2, .int .i64 1, .slice none 0 0] 39) = X at *
  have hgX := blk_new X (.cells #[.int .i64 2, .int .i64 2, .int .i64 0, .slice (some ⟨w2.heap.size + 2 + 1 + 1, 0, none⟩) 3 3] 30)
  rw [hsX] at hgX
  have hbY := below_alloc (Below.refl X.heap.size X) (.cells #[.int .i64 2, .int .i64 2, .int .i64 0, .slice (some ⟨w2.heap.size + 2 + 1 + 1, 0, none⟩) 3 3] 30)
  have hcX := Kd.C_below hrV hbY
  generalize X.alloc (.cells #[.int .i64 2, .int .i64 2, .int .i64 0, .slice (some ⟨w2.heap.size + 2 + 1 + 1, 0, none⟩) 3 3] 30) = Y at *
  have hbXX : Below V.heap.size V X := by rw [hsV]; exact hbX
  have HBY := Lib.hid (blw (blw hbV hbXX) hbY)
  have HCX := Lib.hid hcX
  obtain ⟨j0, j1, j2, j3⟩ := cells4 hgX
  obtain ⟨i0, i1, i2, i3⟩ := cells4 (blk_below HG2.out HBY.out)
  clear hbV hbX hbXX hbY hcX hrV hsX hgX hsV HG2
  rw [show w2.heap.size + 2 + 3 = w2.heap.size + 2 + 1 + 1 + 1 from rfl] at j0 j1 j2 j3
  rw [show w2.heap.size + 2 + 2 = w2.heap.size + 2 + 1 + 1 from rfl] at HCX
  have HBZ := Lib.hid (blw HB12.out HBY.out)
  have HBT := Lib.hid (blw HB2.out HBY.out)
  clear HBY HB2 HB12 hlt2
  generalize w2.heap.size + 2 + 1 + 1 + 1 = p9 at *
  generalize w2.heap.size + 2 + 1 + 1 = p4 at *
  go_wp2_with fail
  refine (same_eq want0 Ap (some ⟨p4, 0, none⟩) cp 3 Y (Kd.C_below HPR.out HBZ.out) HCX.out (by decide) (by decide)).mono ?_
  rintro e w3 ⟨rfl, hb3⟩
  have HB3 := Lib.hid hb3
  clear hb3 i0 i1 i2 i3 j0 j1 j2 j3
  go_wp2_with fail
  have hnm : Kd.C Kd.string (w3.alloc (.cells #[.string ⟨#[97]⟩, .string ⟨#[98]⟩] 9)) (some ⟨w3.heap.size, 0, none⟩) [sA, sB].length [sA, sB] :=
    lit_reads (lit_row Kd.string 9 w3 0 (Nat.zero_le _) [sA, sB] [.string sA, .string sB] (((Reps.none _ _).snoc (p := sA) (c := [.string sA]) rfl rfl).snoc (p := sB) (c := [.string sB]) rfl rfl) (by simp)) rfl
  refine (names_eq Av (some ⟨w3.heap.size, 0, none⟩) cv 2 [sA, sB] _ (Kd.C_below HNM.out (blw HBZ.out (blw HB3.out (below_alloc (Below.refl _ _) _)))) hnm).mono ?_
  rintro e w4 ⟨rfl, hb4⟩
  have HB4 := Lib.hid (blw HBT.out (blw HB3.out (blw (below_alloc (Below.refl _ _) _) hb4)))
  clear hb4 hnm
  go_wp2_with fail
  go_ret
  exact ⟨rfl, HB4.out⟩
end Go.Proofs.Ytoiejgmfgcdniaa
