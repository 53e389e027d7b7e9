import Derived.Test.YtoiejgmfgcdniaaFrame
import Derived.Test.YtoiejgmfgcdniaaRules4
import Derived.StillTailTactics
set_option linter.unusedVariables false
set_option linter.unusedSimpArgs false
namespace Go.Proofs.Ytoiejgmfgcdniaa
open Go.RowKit Go.Proofs.YtoiejgmfgcdniaaW.PrintWords

/-! ### lower's state -/
theorem info9 : (Try.prog.info? 9).map (fun i => (i.zero, i.size, i.bytes)) = some (some (.string ⟨#[]⟩), 1, 16) := by kernel_rfl
theorem info39 : (Try.prog.info? 39).map (fun i => (i.zero, i.size, i.bytes)) = some (some (.agg #[.int .i64 0, .slice none 0 0]), 2, 32) := by kernel_rfl
theorem info41 : (Try.prog.info? 41).map (fun i => (i.zero, i.size, i.bytes)) = some (some (.agg #[.bool false, .int .i64 0]), 2, 16) := by kernel_rfl
/-- Terminals' numbers. -/
def termF (names : List ByteArray) (x : ByteArray) : Option Int := if idxOf (fun y => decide (y = x)) names < 0 then none else some (idxOf (fun y => decide (y = x)) names)
/-- What is known of the maps and rows of a lowerer. -/
structure LowS where
  names : List ByteArray
  rules : ByteArray → Option Int
  rsz : Nat
  own : Int → Option Int
  osz : Nat
  prods : List Prod
structure LowM where
  g : Nat
  bt : Nat
  br : Nat
  bo : Nat
  nv : Value
  pv : Value
structure LSt (B N : Nat) (rv tv : Value) (w : World) (m : LowM) (s : LowS) : Prop where
  cells : w.heap[m.g]? = some (.cells #[rv, tv, m.nv, .map (some m.bt), .map (some m.br), .map (some m.bo), m.pv] 98 (0, 0))
  names : Kd.R Kd.string 9 w B (fun _ => True) m.nv s.names
  terms : MapRep 9 klS w m.bt N (termF s.names) s.names.length
  rules : MapRep 9 klS w m.br N s.rules s.rsz
  own : MapRep 3 klI w m.bo N s.own s.osz
  prods : Kd.R kProd 39 w B (fun _ => True) m.pv s.prods
  ne1 : m.bt ≠ m.br
  ne2 : m.bt ≠ m.bo
  ne3 : m.br ≠ m.bo
  g0 : B ≤ m.g
  t0 : B ≤ m.bt
  r0 : B ≤ m.br
  o0 : B ≤ m.bo
section
variable {B N : Nat} {rv tv : Value} {w w1 : World} {m : LowM} {s : LowS}
theorem LSt.cs (h : LSt B N rv tv w m s) : w.cell? ⟨m.g, 0, none⟩ = some rv ∧ w.cell? ⟨m.g, 1, none⟩ = some tv ∧ w.cell? ⟨m.g, 2, none⟩ = some m.nv ∧ w.cell? ⟨m.g, 3, none⟩ = some (.map (some m.bt)) ∧
    w.cell? ⟨m.g, 4, none⟩ = some (.map (some m.br)) ∧ w.cell? ⟨m.g, 5, none⟩ = some (.map (some m.bo)) ∧ w.cell? ⟨m.g, 6, none⟩ = some m.pv :=
  ⟨(blk_cell h.cells 0).trans rfl, (blk_cell h.cells 1).trans rfl, (blk_cell h.cells 2).trans rfl, (blk_cell h.cells 3).trans rfl, (blk_cell h.cells 4).trans rfl, (blk_cell h.cells 5).trans rfl, (blk_cell h.cells 6).trans rfl⟩
theorem LSt.mono {N' : Nat} (h : LSt B N rv tv w m s) (hN : N ≤ N') : LSt B N' rv tv w m s :=
  { h with terms := h.terms.mono hN, rules := h.rules.mono hN, own := h.own.mono hN }
/-- All that was there stays. -/
theorem LSt.below (h : LSt B N rv tv w m s) (hb : Below w.heap.size w w1) : LSt B N rv tv w1 m s where
  cells := blk_below h.cells hb
  names := Kd.R_below h.names hb
  terms := h.terms.move (hb.block _ h.terms.lt)
  rules := h.rules.move (hb.block _ h.rules.lt)
  own := h.own.move (hb.block _ h.own.lt)
  prods := Kd.R_below h.prods hb
  ne1 := h.ne1
  ne2 := h.ne2
  ne3 := h.ne3
  g0 := h.g0
  t0 := h.t0
  r0 := h.r0
  o0 := h.o0
end
theorem kProd_M {w : World} {base : Nat} {ok : Nat → Prop} (x : Prod) {v : Value} (h : kSym.R 41 w base ok v x.right) : kProd.M w base ok x [.int .i64 x.left, v] := ⟨[.int .i64 x.left], [v], rfl, rfl, v, rfl, h⟩

theorem R_ne {α β : Type} {d : Kd α} {d' : Kd β} {e e' base base' : Nat} {ok ok' : Nat → Prop} {w : World} {u v : Value} {xs : List α} {ys : List β} (h : d.R e w base ok u xs) (h' : d'.R e' w base' ok' v ys) (ht : ∀ q, q ∈ e :: d.E → q ≠ e') :
    d.R e w base (fun k => ok k ∧ some k ≠ v.ownBlock) u xs := by
  obtain ⟨inner, ho⟩ := Kd.R_own h'
  refine Kd.R_mono (Kd.R_bound h) (fun k hk => ⟨hk.1, fun he => ?_⟩)
  obtain ⟨_, _, _, q, hq, cells, hc⟩ := hk
  obtain ⟨cells', hc'⟩ := own_typed ho k he.symm
  rw [hc] at hc'
  injection hc' with hc'
  injection hc' with _ hc'
  exact ht q hq hc'
/-! ### lay -/
def LayPost (B N : Nat) (rv tv : Value) (w : World) (m : LowM) (s : LowS) (p : Prod) (e : Ending) (w' : World) : Prop :=
  e = .returned (.tuple #[]) ∧ ∃ pv, LSt B N rv tv w' { m with pv := pv } { s with prods := s.prods ++ [p] } ∧ Fr B [] [98, 39] w w'
set_option maxRecDepth 100000 in
set_option maxHeartbeats 1000000 in
theorem lay_any (B N : Nat) (rv tv : Value) (w : World) (m : LowM) (s : LowS) (left : Int) (v : Value) (right : List Sym) (h : LSt B N rv tv w m s) (hv : kSym.R 41 w B (fun _ => True) v right) (hB : B ≤ w.heap.size) (hn : s.prods.length ≤ 1000000) :
    Calls Try.prog 99 #[.pointer (some ⟨m.g, 0, none⟩), .int .i64 left, v] w (LayPost B N rv tv w m s ⟨left, right⟩) := by
  have HV := Lib.hid hv
  have H := Lib.hid h
  obtain ⟨_, _, _, _, _, _, d6⟩ := h.cs
  have hgl := blk_lt h.cells
  obtain ⟨A, c, hvs⟩ := Kd.R_slice hv
  subst hvs
  have hgf : w.frozen? ⟨m.g, 6, none⟩ = false := blk_frozen h.cells 6
  clear h hv
  obtain ⟨g, bt, br, bo, nv, pv⟩ := m
  go_enter Try.func99, Try.ntmps99
  go_wp2_with (at_builtin; refine Kd.R_append kProd (w0 := w) B rfl (.tmp 10) (.tmp 14) 28 39 _ 32 rfl Try.underlying28 info39 rfl (by decide) (by omega) _ s.prods ⟨left, right⟩ [.int .i64 left, .slice A right.length c] (fun _ => True) (fun k => True ∧ some k ≠ pv.ownBlock) rfl rfl (kProd_M _ (R_ne HV.out H.out.prods (by decide))) (fun _ hk => hk) (fun _ _ => trivial) H.out.prods (Below.refl _ _) hB (by omega) ?_; intro v1 w1 ho hb1 hg _; have HO := Lib.hid ho; have HG := Lib.hid (Fr.grown (B := B) (Ms := []) (T := [39]) H.out.prods (by simp) (Nat.le_refl _) hg); have hcell := HG.out.blk H.out.cells (by decide) (by simp); clear ho hg hb1; have HC := Lib.hid hcell; obtain ⟨av, cv, hsv⟩ := Kd.R_slice HO.out; rw [List.length_append, List.length_singleton] at hsv; subst hsv; have d6' : w1.cell? ⟨g, 6, none⟩ = some pv := (blk_cell hcell 6).trans rfl; have f6' : w1.frozen? ⟨g, 6, none⟩ = false := blk_frozen hcell 6; have hgl' := blk_lt hcell; clear hcell d6 hgf hgl)
  go_end0
  have hF : Fr B [] [98, 39] w (w1.setCell ⟨g, 6, none⟩ (.slice av (s.prods.length + 1) cv)) := (HG.out.mono (fun _ h => h) (by decide) (Nat.le_refl _)).trans (Fr.set HC.out (by decide) H.out.g0)
  refine ⟨rfl, _, ⟨(blk_set HC.out 6 _).trans rfl, hF.R H.out.names (by decide) (by simp), hF.map H.out.terms (by simp), hF.map H.out.rules (by simp), hF.map H.out.own (by simp), Kd.R_set HO.out HC.out (by decide) 6 _, H.out.ne1, H.out.ne2, H.out.ne3, H.out.g0, H.out.t0, H.out.r0, H.out.o0⟩, hF⟩
end Go.Proofs.Ytoiejgmfgcdniaa
