import Derived.Test.YtoiejgmfgcdniaaRead3
set_option linter.unusedVariables false
set_option linter.unusedSimpArgs false
namespace Go.Proofs.Ytoiejgmfgcdniaa
open Go.RowKit Go.Proofs.YtoiejgmfgcdniaaW.PrintWords

/-! ### node -/
theorem info57 : (Try.prog.info? 57).map (fun i => (i.zero, i.size, i.bytes)) = some (some (.agg #[.int .i64 0, .string ⟨#[]⟩, .slice none 0 0]), 3, 48) := by kernel_rfl
theorem info59 : (Try.prog.info? 59).map (fun i => (i.zero, i.size, i.bytes)) = some (some (.agg #[.string ⟨#[]⟩, .int .i64 0]), 2, 24) := by kernel_rfl
theorem info187 : (Try.prog.info? 187).map (fun i => (i.zero, i.size, i.bytes)) = some (some (.agg #[.string ⟨#[]⟩, .int .i64 0]), 2, 24) := by kernel_rfl
theorem rNode_M {w : World} {base : Nat} {ok : Nat → Prop} (x : Node) {v : Value} (h : (Kd.int .i64).R 3 w base ok v x.kids) : kNode.M w base ok x [.int .i64 x.kind, .string x.name, v] := ⟨[.int .i64 x.kind], [.string x.name, v], rfl, rfl, ⟨[.string x.name], [v], rfl, rfl, v, rfl, h⟩⟩
def RNodePost (B : Nat) (ok : Nat → Prop) (tv : Value) (en : Int) (w : World) (m : RdM) (s : RdS) (x : Node) (e : Ending) (w' : World) : Prop :=
  e = .returned (.int .i64 s.nodes.length) ∧ ∃ nv, RSt B ok tv en w' { m with nv := nv } { s with nodes := s.nodes ++ [x] } ∧ Fo ok B m.g w w'
set_option maxRecDepth 100000 in
set_option maxHeartbeats 1000000 in
theorem rnode_any (B : Nat) (ok okk : Nat → Prop) (tv : Value) (en : Int) (w : World) (m : RdM) (s : RdS) (x : Node) (kv : Value) (h : RSt B ok tv en w m s) (hk : (Kd.int .i64).R 3 w B okk kv x.kids) (hok : ∀ k, okk k → ok k) (hfresh : ∀ k, w.heap.size ≤ k → ok k) (hB : B ≤ w.heap.size) (hn : s.nodes.length ≤ 1000000) :
    Calls Try.prog 201 #[.pointer (some ⟨m.g, 0, none⟩), .int .i64 x.kind, .string x.name, kv] w (RNodePost B ok tv en w m s x) := by
  have H := Lib.hid h
  have HOK := Lib.hid hok
  have HFR := Lib.hid hfresh
  obtain ⟨_, _, _, _, d4, _⟩ := h.cs
  have hgl := blk_lt h.cells
  have hgf : w.frozen? ⟨m.g, 4, none⟩ = false := blk_frozen h.cells 4
  have HK := Lib.hid (R_ne hk h.nodes (by decide))
  obtain ⟨Ak, ck, hks⟩ := Kd.R_slice hk
  obtain ⟨An, cn, hns⟩ := Kd.R_slice h.nodes
  clear h hk hok hfresh
  obtain ⟨g, rv, nv, gv, uv⟩ := m
  simp only at d4 hgl hgf hns
  subst hks hns
  obtain ⟨pos, rs, ns, gs, us⟩ := s
  simp only at d4 hn
  simp only [RNodePost]
  go_enter Try.func201, Try.ntmps201
  go_wp2_with (at_builtin; refine Kd.R_append kNode (w0 := w) B rfl (.tmp 14) (.tmp 19) 23 57 _ 48 rfl Try.underlying23 info57 rfl (by decide) (by omega) _ ns x [.int .i64 x.kind, .string x.name, .slice Ak x.kids.length ck] ok (fun k => okk k ∧ some k ≠ (Value.slice An ns.length cn).ownBlock) rfl rfl (rNode_M _ HK.out) (fun k hk => ⟨HOK.out k hk.1, hk.2⟩) HFR.out H.out.nodes (Below.refl _ _) hB (by omega) ?_; intro v1 w1 ho hb1 hg _; have HO := Lib.hid ho; have HG := Lib.hid (Fr.grown (B := B) (Ms := []) (T := [57]) H.out.nodes (by simp) (Nat.le_refl _) hg); have HGO := Lib.hid (Fo.grown (ok := ok) (B := B) (g := g) H.out.nodes (by decide) (Nat.le_refl _) (fun _ h => h) hg); have hcell := HG.out.blk H.out.cells (by decide) (by simp); clear ho hg hb1; have HC := Lib.hid hcell; obtain ⟨av, cv, hsv⟩ := Kd.R_slice HO.out; rw [List.length_append, List.length_singleton] at hsv; subst hsv; have d4' : w1.cell? ⟨g, 4, none⟩ = some (.slice An ns.length cn) := (blk_cell hcell 4).trans rfl; have f4' : w1.frozen? ⟨g, 4, none⟩ = false := blk_frozen hcell 4; have hgl' := blk_lt hcell; clear hcell d4 hgf hgl)
  go_ret
  have hF : Fo ok B g w (w1.setCell ⟨g, 4, none⟩ (.slice av (ns.length + 1) cv)) := HGO.out.trans (Fo.set HC.out H.out.g0)
  have hF2 : Fr B [] [114, 57] w (w1.setCell ⟨g, 4, none⟩ (.slice av (ns.length + 1) cv)) := (HG.out.mono (fun _ h => h) (by decide) (Nat.le_refl _)).trans (Fr.set HC.out (by decide) H.out.g0)
  exact ⟨ret_int (by simp), _, ⟨(blk_set HC.out 4 _).trans rfl, hF2.R H.out.rules (by decide) (by simp), Kd.R_set HO.out HC.out (by decide) 4 _, hF2.R H.out.given (by decide) (by simp), hF2.R H.out.used (by decide) (by simp), H.out.g0⟩, hF⟩
end Go.Proofs.Ytoiejgmfgcdniaa
