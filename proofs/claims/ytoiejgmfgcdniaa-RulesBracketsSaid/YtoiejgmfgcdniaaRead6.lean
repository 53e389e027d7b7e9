import Derived.Test.YtoiejgmfgcdniaaRead5
set_option linter.unusedVariables false
set_option linter.unusedSimpArgs false
namespace Go.Proofs.Ytoiejgmfgcdniaa
open Go.RowKit Go.Proofs.YtoiejgmfgcdniaaW.PrintWords

theorem size_set (w : World) (p : Addr) (v : Value) : (w.setCell p v).heap.size = w.heap.size := by simp [World.setCell]
theorem below_set {w Y : World} (hb : Below w.heap.size w Y) (p : Addr) (v : Value) : Below (w.setCell p v).heap.size (w.setCell p v) (Y.setCell p v) := by
  refine ⟨hb.os, hb.tape, hb.output, by rw [size_set, size_set]; exact hb.size, fun k hk => ?_⟩
  rw [size_set] at hk
  have h0 := hb.block k hk
  unfold World.setCell
  simp only [Array.getElem?_modify]
  rw [h0]
set_option maxRecDepth 100000 in
set_option maxHeartbeats 2000000 in
theorem name_ok (w0 : World) (ok : Nat → Prop) (A : Option Addr) (c : Nat) (toks : List Tok) (en : Int) (w : World) (m : RdM) (s : RdS) (ht : Kd.C kTok w0 A toks.length toks) (hw : Below w0.heap.size w0 w) (h : RSt w0.heap.size ok (.slice A toks.length c) en w m s)
    (x : Tok) (hx : toks[s.pos]? = some x) (hk : x.kind = 1) :
    Calls Try.prog 154 #[.pointer (some ⟨m.g, 0, none⟩)] w fun e w' => e = .returned (.agg #[.string x.text, .int .i64 x.pos]) ∧ RSt w0.heap.size ok (.slice A toks.length c) en w' m { s with pos := s.pos + 1 } ∧ Fo ok w0.heap.size m.g w w' := by
  have H := Lib.hid h
  have HW := Lib.hid hw
  have HK := Lib.hid ht
  have HB := Lib.hid (fun o => below_alloc (Below.refl w.heap.size w) o)
  obtain ⟨d0, d1, _⟩ := (h.below (below_alloc (Below.refl _ _) (.cells #[.string ⟨#[]⟩, .int .i64 0] 187))).cs
  have hgl := blk_lt h.cells
  have hmx := Kd.C_max ht
  have hlt : s.pos < toks.length := (List.getElem?_eq_some_iff.1 hx).1
  obtain ⟨ad, x', rfl, hx', e0', e1', e2'⟩ := at_Tok (Kd.C_below ht (hw.trans ((below_alloc (Below.refl w.heap.size w) (.cells #[.string ⟨#[]⟩, .int .i64 0] 187)).mono hw.size))) s.pos hlt
  obtain rfl : x = x' := by rw [hx] at hx'; exact Option.some.inj hx'
  have e0 := e0'
  have e1 := e1'
  have e2 := e2'
  have b1 : (x.kind != 1) = false := by rw [hk]; rfl
  have hgW := blk_new w (.cells #[.string ⟨#[]⟩, .int .i64 0] 187)
  clear h ht hw hk hx hx' e0' e1' e2'
  go_enter Try.func154, Try.ntmps154
  go_upto_region 1 with (fail)
  generalize hW : w.alloc (.cells #[.string ⟨#[]⟩, .int .i64 0] 187) = W at *
  have HBW := Lib.hid (hW ▸ HB.out (.cells #[.string ⟨#[]⟩, .int .i64 0] 187))
  clear hW
  go_quiet (fail)
  have HQ := Lib.hid (blw HBW.out (pw_below_drewN (Below.refl W.heap.size W) nq))
  have hgW2 := blk_below hgW (pw_below_drewN (Below.refl W.heap.size W) nq)
  have hb9 := pw_below_drewN (Below.refl W.heap.size W) nq
  have g0 := pw_cell_below hb9 d0
  have g1 := pw_cell_below hb9 d1
  have k0 := pw_cell_below hb9 e0
  have k1 := pw_cell_below hb9 e1
  have k2 := pw_cell_below hb9 e2
  clear d0 d1 e0 e1 e2 hb9 hgW
  generalize W.drewN nq = V at *
  have HGW := Lib.hid hgW2
  have HV := Lib.hid (H.out.below HQ.out)
  clear hgW2
  have n0 := World.new_ne V _ g0
  have n1 := World.new_ne V _ g1
  have n2 := World.new_ne V _ k0
  have n3 := World.new_ne V _ k1
  have n4 := World.new_ne V _ k2
  go_upto_region 3 with (fail)
  go_region_held3 (fun w' => w'.cell? ⟨m.g, 0, none⟩ = some (.slice (some ad) toks.length c) ∧ w'.cell? ⟨m.g, 1, none⟩ = some (.int .i64 s.pos) ∧ w'.cell? (ad.add (s.pos * 3)) = some (.int .i64 x.kind) ∧ w'.cell? ⟨(ad.add (s.pos * 3)).block, (ad.add (s.pos * 3)).off + 1, none⟩ = some (.string x.text) ∧ w'.cell? ⟨(ad.add (s.pos * 3)).block, (ad.add (s.pos * 3)).off + 2, none⟩ = some (.int .i64 x.pos)) (go_keep) (fail)
  have hb3 : Below V.heap.size V (V.alloc (.cells #[.int .i64 x.kind, .string x.text, .int .i64 x.pos] 65)).drew := below_drew (below_alloc (Below.refl _ _) _)
  have hg3 : ((V.alloc (.cells #[.int .i64 x.kind, .string x.text, .int .i64 x.pos] 65)).drew).heap[V.heap.size]? = some (.cells #[.int .i64 x.kind, .string x.text, .int .i64 x.pos] 65 (0, 0)) := blk_new V _
  clear g0 g1 k0 k1 k2 n1 n2 n3 n4
  generalize (V.alloc (.cells #[.int .i64 x.kind, .string x.text, .int .i64 x.pos] 65)).drew = Y at *
  have HY := Lib.hid (HV.out.below hb3)
  have HBY := Lib.hid (blw HQ.out hb3)
  obtain ⟨_, q1, _⟩ := HY.out.cs
  have q1f := blk_frozen HY.out.cells 1
  have hgY := blk_lt HY.out.cells
  obtain ⟨r0, r1, r2⟩ := cells3 hg3
  have HGR := Lib.hid (blk_below HGW.out hb3)
  have hltR := blk_lt HGR.out
  obtain ⟨s0, s1⟩ := cells2 HGR.out
  have sf0 := blk_frozen HGR.out 0
  have sf1 := blk_frozen HGR.out 1
  have hltT := blk_lt hg3
  have hne1 : w.heap.size ≠ m.g := by omega
  have hne2 : m.g ≠ w.heap.size := by omega
  have hne3 : m.g ≠ V.heap.size := fun e => n0 e.symm
  clear hg3 hb3
  go_wp2_with fail
  have hmv := H.out.move (s.pos + 1)
  have hbs := below_set HBY.out ⟨m.g, 1, none⟩ (.int .i64 ((s.pos + 1 : Nat) : Int))
  rw [show ((s.pos + 1 : Nat) : Int) = (s.pos : Int) + 1 by omega] at hmv hbs
  have hgR2 : (Y.setCell ⟨m.g, 1, none⟩ (.int .i64 ((s.pos : Int) + 1))).heap[w.heap.size]? = some (.cells #[.string ⟨#[]⟩, .int .i64 0] 187 (0, 0)) := (Below.heap_setCell Y ⟨m.g, 1, none⟩ _ _ hne1).trans HGR.out
  generalize Y.setCell ⟨m.g, 1, none⟩ (.int .i64 ((s.pos : Int) + 1)) = Z at *
  have hg5 : ((Z.setCell ⟨w.heap.size, 0, none⟩ (.string x.text)).setCell ⟨w.heap.size, 1, none⟩ (.int .i64 x.pos)).heap[w.heap.size]? = some (.cells #[.string x.text, .int .i64 x.pos] 187 (0, 0)) :=
    (blk_set ((blk_set hgR2 0 _).trans rfl) 1 _).trans rfl
  obtain ⟨t0, t1⟩ := cells2 hg5
  have hbz : Below (w.setCell ⟨m.g, 1, none⟩ (.int .i64 ((s.pos : Int) + 1))).heap.size (w.setCell ⟨m.g, 1, none⟩ (.int .i64 ((s.pos : Int) + 1))) ((Z.setCell ⟨w.heap.size, 0, none⟩ (.string x.text)).setCell ⟨w.heap.size, 1, none⟩ (.int .i64 x.pos)) :=
    (hbs.setCell (by rw [size_set]; exact Nat.le_refl _) _).setCell (by rw [size_set]; exact Nat.le_refl _) _
  exact bodyPost_ret (v := .agg #[.string x.text, .int .i64 x.pos]) (by simp [results, Try.results154, go_sem, t0, t1]) rfl ⟨rfl, hmv.1.below hbz, hmv.2.trans (Fo.of_below hbz)⟩
end Go.Proofs.Ytoiejgmfgcdniaa
