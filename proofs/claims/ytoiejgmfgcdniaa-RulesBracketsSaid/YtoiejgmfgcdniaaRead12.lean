import Derived.Test.YtoiejgmfgcdniaaRead11
set_option linter.unusedVariables false
set_option linter.unusedSimpArgs false
namespace Go.Proofs.Ytoiejgmfgcdniaa
open Go.RowKit Go.Proofs.YtoiejgmfgcdniaaW.PrintWords

set_option maxRecDepth 100000 in
set_option maxHeartbeats 2000000 in
theorem atom_quote (w0 : World) (A : Option Addr) (c : Nat) (toks : List Tok) (en : Int) (alt : RdS → RP) (ht : Kd.C kTok w0 A toks.length toks)
    (ok : Nat → Prop) (w : World) (m : RdM) (s : RdS) (hw : Below w0.heap.size w0 w) (h : RSt w0.heap.size ok (.slice A toks.length c) en w m s) (hfr : ∀ k, w.heap.size ≤ k → ok k) (hb : bud toks s ≤ 1000000)
    (hm : isMark toks s.pos (mkB 40) = false) (x : Tok) (hx : toks[s.pos]? = some x) (h2 : x.kind = 2) :
    Calls Try.prog 200 #[.pointer (some ⟨m.g, 0, none⟩)] w (RPPost w0.heap.size ok (.slice A toks.length c) en w m.g (atomW toks en alt s)) := by
  have H := Lib.hid h
  have HW := Lib.hid hw
  have HK := Lib.hid ht
  have HFR := Lib.hid hfr
  have HM := Lib.hid hm
  have hmx := Kd.C_max ht
  have hlt : s.pos < toks.length := (List.getElem?_eq_some_iff.1 hx).1
  have hbs := bud_step toks s hlt
  have hbn : s.nodes.length ≤ 1000000 := by unfold bud at hb; omega
  have HT : Hid (takeS toks s (mkB 40) = s) := Lib.hid (by unfold takeS; rw [if_neg (by simp [hm])])
  have HQ : Hid (atomW toks en alt s = .ok (layN (stepS s) ⟨7, x.text, []⟩)) := Lib.hid (by unfold atomW; rw [if_neg (by simp [hm]), hx]; simp only [if_pos h2])
  have b2 : (x.kind == 2) = true := beq_iff_eq.2 h2
  have HX := Lib.hid hx
  clear h hw ht hfr hm hx h2
  generalize atomW toks en alt s = res at HQ ⊢
  go_enter Try.func200, Try.ntmps200
  go_wp2_with fail
  refine (take_any w0.heap.size ok A c toks en w m s (mkB 40) H.out (Kd.C_below HK.out HW.out)).mono ?_
  rintro e V ⟨rfl, hS, hF⟩
  rw [HM.out]
  rw [HT.out] at hS
  have HV := Lib.hid hS
  have HF1 := Lib.hid hF
  obtain ⟨g0, g1, _⟩ := hS.cs
  obtain ⟨ad, x', had, hx', k0, k1, k2⟩ := at_Tok (Kd.C_below HK.out (HW.out.trans (hF.toBelow HW.out.size))) s.pos hlt
  obtain rfl : x = x' := by have := HX.out; rw [this] at hx'; exact Option.some.inj hx'
  subst had
  have hgV := blk_lt hS.cells
  clear hS hF hx'
  have n0 := World.new_ne V _ g0
  have n1 := World.new_ne V _ g1
  have n2 := World.new_ne V _ k0
  have n3 := World.new_ne V _ k1
  have n4 := World.new_ne V _ k2
  go_upto_region 5 with (fail)
  go_region_held3 (fun w' => w'.cell? ⟨m.g, 0, none⟩ = some (.slice (some ad) toks.length c) ∧ w'.cell? ⟨m.g, 1, none⟩ = some (.int .i64 s.pos) ∧ w'.cell? (ad.add (s.pos * 3)) = some (.int .i64 x.kind) ∧ w'.cell? ⟨(ad.add (s.pos * 3)).block, (ad.add (s.pos * 3)).off + 1, none⟩ = some (.string x.text) ∧ w'.cell? ⟨(ad.add (s.pos * 3)).block, (ad.add (s.pos * 3)).off + 2, none⟩ = some (.int .i64 x.pos)) (go_keep) (fail)
  have hb3 : Below V.heap.size V (V.alloc (.cells #[.int .i64 x.kind, .string x.text, .int .i64 x.pos] 65)).drew := below_drew (below_alloc (Below.refl _ _) _)
  have hg3 : ((V.alloc (.cells #[.int .i64 x.kind, .string x.text, .int .i64 x.pos] 65)).drew).heap[V.heap.size]? = some (.cells #[.int .i64 x.kind, .string x.text, .int .i64 x.pos] 65 (0, 0)) := blk_new V _
  clear g0 g1 k0 k1 k2 n1 n2 n3 n4
  generalize (V.alloc (.cells #[.int .i64 x.kind, .string x.text, .int .i64 x.pos] 65)).drew = Y at *
  have HY := Lib.hid (HV.out.below hb3)
  have HFY := Lib.hid (HF1.out.trans (Fo.of_below hb3))
  obtain ⟨_, q1, _⟩ := HY.out.cs
  have q1f := blk_frozen HY.out.cells 1
  have hgY := blk_lt HY.out.cells
  obtain ⟨r0, r1, r2⟩ := cells3 hg3
  have hne3 : m.g ≠ V.heap.size := fun e => n0 e.symm
  clear hb3 hg3
  go_wp2_with fail
  have hmv := HY.out.move (s.pos + 1)
  rw [show ((s.pos + 1 : Nat) : Int) = (s.pos : Int) + 1 by omega] at hmv
  have hsz : Y.heap.size ≤ (Y.setCell ⟨m.g, 1, none⟩ (.int .i64 ((s.pos : Int) + 1))).heap.size := by rw [size_set]; exact Nat.le_refl _
  generalize Y.setCell ⟨m.g, 1, none⟩ (.int .i64 ((s.pos : Int) + 1)) = Z at *
  have HFZ := Lib.hid (HFY.out.trans hmv.2)
  have HZ := Lib.hid hmv.1
  refine (rnode_any w0.heap.size ok (fun _ => False) _ en Z m (stepS s) ⟨7, x.text, []⟩ (.slice none 0 0) HZ.out (Kd.R_nil _ _ _ _ _) (fun _ h => h.elim) (sizeFr (B := 0) HFR.out HFZ.out.size) (Nat.le_trans HW.out.size HFZ.out.size) hbn).mono ?_
  rintro e w5 ⟨rfl, nv5, hS5, hF5⟩
  have HS5 := Lib.hid hS5
  have HF5 := Lib.hid (HFZ.out.trans hF5)
  clear hS5 hF5 hmv
  go_wp2_with fail
  go_ret
  rw [HQ.out]
  exact ⟨rfl, { m with nv := nv5 }, rfl, HS5.out, HF5.out⟩
end Go.Proofs.Ytoiejgmfgcdniaa
