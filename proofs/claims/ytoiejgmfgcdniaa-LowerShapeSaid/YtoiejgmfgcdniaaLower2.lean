import Derived.Test.YtoiejgmfgcdniaaLower1
import Derived.Test.YtoiejgmfgcdniaaTail
set_option linter.unusedVariables false
set_option linter.unusedSimpArgs false
namespace Go.Proofs.Ytoiejgmfgcdniaa
open Go.RowKit Go.Proofs.YtoiejgmfgcdniaaW.PrintWords

/-! ### symbol -/
def symP (s : LowS) (nd : Node) (n : Nat) : Sym :=
  if nd.kind = 7 then ⟨false, (termF s.names nd.name).getD 0⟩ else if nd.kind = 6 then ⟨true, (s.rules nd.name).getD 0⟩ else ⟨true, (s.own n).getD 0⟩
def SymPost (x : Sym) (w : World) (e : Ending) (w' : World) : Prop := e = .returned (.agg #[.bool x.non, .int .i64 x.n]) ∧ Below w.heap.size w w'
theorem cell1 {w : World} {p : Addr} {v : Value} (h : w.cell? p = some v) : ∀ o, (w.alloc o).cell? p = some v := fun o => pw_cell_below (below_alloc (Below.refl _ _) o) h
theorem Later.look {K T : TypeId} {κ : Type} {kl : κ → Lit} {w W : World} {b n : Nat} {f : κ → Option Int} {sz : Nat} (h : MapRep K kl w b n f sz) (hb : Below w.heap.size w W) (law : Go.Maps.Keyed Try.prog K) (hT : Try.prog.underlying T = some (.map K 3)) {x : κ} {v : Value} (hk : keyOf Try.prog K v = some (kl x)) (y : Later W) :
    (Instr.lookup T (.map (some b)) v false).run Try.prog y.val = .ok (.int .i64 ((f x).getD 0)) y.val :=
  ((h.move (hb.block _ h.lt)).move (y.below.block _ (h.move (hb.block _ h.lt)).lt)).look law hT hk
theorem lookW {K T : TypeId} {κ : Type} {kl : κ → Lit} {w W : World} {b n : Nat} {f : κ → Option Int} {sz : Nat} (h : MapRep K kl w b n f sz) (hb : Below w.heap.size w W) (law : Go.Maps.Keyed Try.prog K) (hT : Try.prog.underlying T = some (.map K 3)) {x : κ} {v : Value} (hk : keyOf Try.prog K v = some (kl x)) :
    (Instr.lookup T (.map (some b)) v false).run Try.prog W = .ok (.int .i64 ((f x).getD 0)) W := (h.move (hb.block _ h.lt)).look law hT hk
set_option maxRecDepth 100000 in
set_option maxHeartbeats 1000000 in
theorem symbol_any (B N : Nat) (rv : Value) (w : World) (m : LowM) (s : LowS) (ns : List Node) (A1 : Option Addr) (c1 : Nat) (n : Nat) (nd : Node) (h : LSt B N rv (.slice A1 ns.length c1) w m s) (hr : Kd.C kNode w A1 ns.length ns) (hn : ns[n]? = some nd) (hsz : nd.name.size ≤ 140737488351232) :
    Calls Try.prog 98 #[.pointer (some ⟨m.g, 0, none⟩), .int .i64 n] w (SymPost (symP s nd n) w) := by
  have hlt : n < ns.length := (List.getElem?_eq_some_iff.1 hn).1
  have hmx := Kd.C_max hr
  obtain ⟨ad, nd', A2, c2, rfl, hn', g0, g1, g2, _, _⟩ := at_Node hr n hlt
  obtain rfl : nd = nd' := by rw [hn] at hn'; exact Option.some.inj hn'
  obtain ⟨_, d1, _, d3, d4, d5, _⟩ := h.cs
  have HT := Lib.hid h.terms
  have HU := Lib.hid h.rules
  have HO := Lib.hid h.own
  have HK := Lib.hid (keyS nd.name (by unfold maxLen; omega))
  have HI := Lib.hid (keyI n (WalkArith.wf_i64 (by omega)))
  have q0 := cell1 g0
  have q1 := cell1 g1
  have q2 := cell1 g2
  have hgl := blk_lt h.cells
  have HB := Lib.hid (fun o1 o2 => bel2n (w := w) o1 o2)
  have i1 : (n : Int) < (ns.length : Int) := by omega
  obtain ⟨g, bt, br, bo, nv, pv⟩ := m
  clear h hr hn hn' g0 g1 g2
  simp only at d1 d3 d4 d5 hgl
  by_cases h7 : nd.kind = 7
  · have hs : symP s nd n = ⟨false, (termF s.names nd.name).getD 0⟩ := by unfold symP; rw [if_pos h7]
    have b7 : (nd.kind == 7) = true := beq_iff_eq.2 h7
    clear h7
    rw [hs]
    generalize hv : (termF s.names nd.name).getD 0 = v
    clear hs
    go_enter Try.func98, Try.ntmps98
    go_wp2_with fail
    have hb2 := HB.out (.cells #[.bool false, .int .i64 0] 41) (.cells #[.int .i64 nd.kind, .string nd.name, .slice A2 nd.kids.length c2] 57)
    have hg0 := blk_alloc (blk_new w (.cells #[.bool false, .int .i64 0] 41)) (.cells #[.int .i64 nd.kind, .string nd.name, .slice A2 nd.kids.length c2] 57)
    have hg1 := blk_new (w.alloc (.cells #[.bool false, .int .i64 0] 41)) (.cells #[.int .i64 nd.kind, .string nd.name, .slice A2 nd.kids.length c2] 57)
    rw [size_alloc] at hg1
    generalize (w.alloc (.cells #[.bool false, .int .i64 0] 41)).alloc (.cells #[.int .i64 nd.kind, .string nd.name, .slice A2 nd.kids.length c2] 57) = W at *
    have l0 := Later.cell (pw_cell_below hb2 d3)
    have l1 := Later.cell (cells3 hg1).2.1
    have l2 := Later.look HT.out hb2 lawS Try.underlying95 HK.out
    rw [hv] at l2
    have HG0 := Lib.hid hg0
    clear hg0 hg1
    refine wp_region_later_tail 8 (by kernel_rfl) (by kernel_rfl) ?_
    simp only [List.take_succ_cons, List.take_zero, List.drop_succ_cons, List.drop_zero]
    repeat (go_big_quiet_step (fail))
    refine wpQuiet_nil ?_
    intro y
    have hgy := blk_below HG0.out y.below
    obtain ⟨e0, e1⟩ := cells2 hgy
    have f0 := blk_frozen hgy 0
    have f1 := blk_frozen hgy 1
    have hlt2 := blk_lt hgy
    clear hgy l0 l1 l2
    go_wp2_with fail
    exact bodyPost_ret (v := .agg #[.bool false, .int .i64 v]) (by simp [results, Try.results98, go_sem, e0, e1]) rfl ⟨rfl, ((blw hb2 y.below).setCell (by simp) _).setCell (by simp) _⟩
  · by_cases h6 : nd.kind = 6
    · have hs : symP s nd n = ⟨true, (s.rules nd.name).getD 0⟩ := by unfold symP; rw [if_neg h7, if_pos h6]
      have b7 : (nd.kind == 7) = false := beq_eq_false_iff_ne.2 h7
      have b6 : (nd.kind == 6) = true := beq_iff_eq.2 h6
      clear h7 h6
      rw [hs]
      generalize hv : (s.rules nd.name).getD 0 = v
      clear hs
      go_enter Try.func98, Try.ntmps98
      go_wp2_with fail
      have hb2 := HB.out (.cells #[.bool false, .int .i64 0] 41) (.cells #[.int .i64 nd.kind, .string nd.name, .slice A2 nd.kids.length c2] 57)
      have hg0 := blk_alloc (blk_new w (.cells #[.bool false, .int .i64 0] 41)) (.cells #[.int .i64 nd.kind, .string nd.name, .slice A2 nd.kids.length c2] 57)
      have hg1 := blk_new (w.alloc (.cells #[.bool false, .int .i64 0] 41)) (.cells #[.int .i64 nd.kind, .string nd.name, .slice A2 nd.kids.length c2] 57)
      rw [size_alloc] at hg1
      generalize (w.alloc (.cells #[.bool false, .int .i64 0] 41)).alloc (.cells #[.int .i64 nd.kind, .string nd.name, .slice A2 nd.kids.length c2] 57) = W at *
      have l0 := Later.cell (pw_cell_below hb2 d4)
      have l1 := Later.cell (cells3 hg1).2.1
      have l2 := Later.look HU.out hb2 lawS Try.underlying95 HK.out
      rw [hv] at l2
      have HG0 := Lib.hid hg0
      clear hg0 hg1
      refine wp_region_later_tail 8 (by kernel_rfl) (by kernel_rfl) ?_
      simp only [List.take_succ_cons, List.take_zero, List.drop_succ_cons, List.drop_zero]
      repeat (go_big_quiet_step (fail))
      refine wpQuiet_nil ?_
      intro y
      have hgy := blk_below HG0.out y.below
      obtain ⟨e0, e1⟩ := cells2 hgy
      have f0 := blk_frozen hgy 0
      have f1 := blk_frozen hgy 1
      have hlt2 := blk_lt hgy
      clear hgy l0 l1 l2
      go_wp2_with fail
      exact bodyPost_ret (v := .agg #[.bool true, .int .i64 v]) (by simp [results, Try.results98, go_sem, e0, e1]) rfl ⟨rfl, ((blw hb2 y.below).setCell (by simp) _).setCell (by simp) _⟩
    · have hs : symP s nd n = ⟨true, (s.own n).getD 0⟩ := by unfold symP; rw [if_neg h7, if_neg h6]
      have b7 : (nd.kind == 7) = false := beq_eq_false_iff_ne.2 h7
      have b6 : (nd.kind == 6) = false := beq_eq_false_iff_ne.2 h6
      have k5 : ∀ o1 o2, (Instr.lookup 96 (.map (some bo)) (.int .i64 n) false).run Try.prog ((w.alloc o1).alloc o2) = .ok (.int .i64 ((s.own n).getD 0)) ((w.alloc o1).alloc o2) := fun o1 o2 => lookW HO.out (HB.out o1 o2) lawI Try.underlying96 HI.out
      rw [hs]
      generalize (s.own n).getD 0 = v at k5
      clear h7 h6 hs
      go_enter Try.func98, Try.ntmps98
      go_wp2_with fail
      exact bodyPost_ret (v := .agg #[.bool true, .int .i64 v]) (by simp [results, Try.results98, go_sem]) rfl ⟨rfl, HB.out _ _⟩
end Go.Proofs.Ytoiejgmfgcdniaa
