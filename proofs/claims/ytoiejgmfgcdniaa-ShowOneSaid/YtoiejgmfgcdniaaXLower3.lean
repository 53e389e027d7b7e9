import Derived.Test.YtoiejgmfgcdniaaXLits
import Derived.Test.YtoiejgmfgcdniaaXRules4
import Derived.StillTailTactics
import Derived.Test.YtoiejgmfgcdniaaXTail
set_option linter.unusedVariables false
set_option linter.unusedSimpArgs false
namespace Go.Proofs.Ytoiejgmfgcdniaa
open Go.RowKit Go.Proofs.YtoiejgmfgcdniaaW.PrintWords

/-! ### lower's state -/
theorem info9 : (Try.prog.info? 9).map (fun i => (i.zero, i.size, i.bytes)) = some (some (.string ⟨#[]⟩), 1, 16) := by kernel_rfl
theorem info39 : (Try.prog.info? 39).map (fun i => (i.zero, i.size, i.bytes)) = some (some (.agg #[.int .i64 0, .slice none 0 0]), 2, 32) := by kernel_rfl
theorem info41 : (Try.prog.info? 41).map (fun i => (i.zero, i.size, i.bytes)) = some (some (.agg #[.bool false, .int .i64 0]), 2, 16) := by kernel_rfl
/-- Terminals' numbers. -/
def termF (names : List ByteArray) (x : ByteArray) : Option Int := if idxOf (fun y => decide (y = x)) names < 0 then none else some (idxOf (fun y => decide (y = x)) names)
/-- What is known of the maps and rows of a lowerer. -/
structure LowS where
  names : List ByteArray
  rules : ByteArray → Option Int
  rsz : Nat
  own : Int → Option Int
  osz : Nat
  prods : List Prod
structure LowM where
  g : Nat
  bt : Nat
  br : Nat
  bo : Nat
  nv : Value
  pv : Value
structure LSt (B N : Nat) (rv tv : Value) (w : World) (m : LowM) (s : LowS) : Prop where
  cells : w.heap[m.g]? = some (.cells #[rv, tv, m.nv, .map (some m.bt), .map (some m.br), .map (some m.bo), m.pv] 98 (0, 0))
  names : Kd.R Kd.string 9 w B (fun _ => True) m.nv s.names
  terms : MapRep 9 klS w m.bt N (termF s.names) s.names.length
  rules : MapRep 9 klS w m.br N s.rules s.rsz
  own : MapRep 3 klI w m.bo N s.own s.osz
  prods : Kd.R kProd 39 w B (fun _ => True) m.pv s.prods
  ne1 : m.bt ≠ m.br
  ne2 : m.bt ≠ m.bo
  ne3 : m.br ≠ m.bo
  g0 : B ≤ m.g
  t0 : B ≤ m.bt
  r0 : B ≤ m.br
  o0 : B ≤ m.bo
section
variable {B N : Nat} {rv tv : Value} {w w1 : World} {m : LowM} {s : LowS}
theorem LSt.cs (h : LSt B N rv tv w m s) : w.cell? ⟨m.g, 0, none⟩ = some rv ∧ w.cell? ⟨m.g, 1, none⟩ = some tv ∧ w.cell? ⟨m.g, 2, none⟩ = some m.nv ∧ w.cell? ⟨m.g, 3, none⟩ = some (.map (some m.bt)) ∧
    w.cell? ⟨m.g, 4, none⟩ = some (.map (some m.br)) ∧ w.cell? ⟨m.g, 5, none⟩ = some (.map (some m.bo)) ∧ w.cell? ⟨m.g, 6, none⟩ = some m.pv :=
  ⟨(blk_cell h.cells 0).trans rfl, (blk_cell h.cells 1).trans rfl, (blk_cell h.cells 2).trans rfl, (blk_cell h.cells 3).trans rfl, (blk_cell h.cells 4).trans rfl, (blk_cell h.cells 5).trans rfl, (blk_cell h.cells 6).trans rfl⟩
theorem LSt.mono {N' : Nat} (h : LSt B N rv tv w m s) (hN : N ≤ N') : LSt B N' rv tv w m s :=
  { h with terms := h.terms.mono hN, rules := h.rules.mono hN, own := h.own.mono hN }
/-- All that was there stays. -/
theorem LSt.below (h : LSt B N rv tv w m s) (hb : Below w.heap.size w w1) : LSt B N rv tv w1 m s where
  cells := blk_below h.cells hb
  names := Kd.R_below h.names hb
  terms := h.terms.move (hb.block _ h.terms.lt)
  rules := h.rules.move (hb.block _ h.rules.lt)
  own := h.own.move (hb.block _ h.own.lt)
  prods := Kd.R_below h.prods hb
  ne1 := h.ne1
  ne2 := h.ne2
  ne3 := h.ne3
  g0 := h.g0
  t0 := h.t0
  r0 := h.r0
  o0 := h.o0
end
theorem kProd_M {w : World} {base : Nat} {ok : Nat → Prop} (x : Prod) {v : Value} (h : kSym.R 41 w base ok v x.right) : kProd.M w base ok x [.int .i64 x.left, v] := ⟨[.int .i64 x.left], [v], rfl, rfl, v, rfl, h⟩

/-! ### lay -/
def LayPost (B N : Nat) (rv tv : Value) (w : World) (m : LowM) (s : LowS) (p : Prod) (e : Ending) (w' : World) : Prop :=
  e = .returned (.tuple #[]) ∧ ∃ pv, LSt B N rv tv w' { m with pv := pv } { s with prods := s.prods ++ [p] } ∧ Fr B [] [98, 39] w w'
set_option maxRecDepth 100000 in
set_option maxHeartbeats 1000000 in
theorem lay_any (B N : Nat) (rv tv : Value) (w : World) (m : LowM) (s : LowS) (left : Int) (v : Value) (right : List Sym) (h : LSt B N rv tv w m s) (hv : kSym.R 41 w B (fun _ => True) v right) (hB : B ≤ w.heap.size) (hn : s.prods.length ≤ 1000000) :
    Calls Try.prog 99 #[.pointer (some ⟨m.g, 0, none⟩), .int .i64 left, v] w (LayPost B N rv tv w m s ⟨left, right⟩) := by
  have HV := Lib.hid hv
  have H := Lib.hid h
  obtain ⟨_, _, _, _, _, _, d6⟩ := h.cs
  have hgl := blk_lt h.cells
  obtain ⟨A, c, hvs⟩ := Kd.R_slice hv
  subst hvs
  have hgf : w.frozen? ⟨m.g, 6, none⟩ = false := blk_frozen h.cells 6
  clear h hv
  obtain ⟨g, bt, br, bo, nv, pv⟩ := m
  go_enter Try.func99, Try.ntmps99
  go_wp2_with (at_builtin; refine Kd.R_append kProd (w0 := w) B rfl (.tmp 10) (.tmp 14) 28 39 _ 32 rfl Try.underlying28 info39 rfl (by decide) (by omega) _ s.prods ⟨left, right⟩ [.int .i64 left, .slice A right.length c] (fun _ => True) (fun k => True ∧ some k ≠ pv.ownBlock) rfl rfl (kProd_M _ (R_ne HV.out H.out.prods (by decide))) (fun _ hk => hk) (fun _ _ => trivial) H.out.prods (Below.refl _ _) hB (by omega) ?_; intro v1 w1 ho hb1 hg _; have HO := Lib.hid ho; have HG := Lib.hid (Fr.grown (B := B) (Ms := []) (T := [39]) H.out.prods (by simp) (Nat.le_refl _) hg); have hcell := HG.out.blk H.out.cells (by decide) (by simp); clear ho hg hb1; have HC := Lib.hid hcell; obtain ⟨av, cv, hsv⟩ := Kd.R_slice HO.out; rw [List.length_append, List.length_singleton] at hsv; subst hsv; have d6' : w1.cell? ⟨g, 6, none⟩ = some pv := (blk_cell hcell 6).trans rfl; have f6' : w1.frozen? ⟨g, 6, none⟩ = false := blk_frozen hcell 6; have hgl' := blk_lt hcell; clear hcell d6 hgf hgl)
  go_end0
  have hF : Fr B [] [98, 39] w (w1.setCell ⟨g, 6, none⟩ (.slice av (s.prods.length + 1) cv)) := (HG.out.mono (fun _ h => h) (by decide) (Nat.le_refl _)).trans (Fr.set HC.out (by decide) H.out.g0)
  refine ⟨rfl, _, ⟨(blk_set HC.out 6 _).trans rfl, hF.R H.out.names (by decide) (by simp), hF.map H.out.terms (by simp), hF.map H.out.rules (by simp), hF.map H.out.own (by simp), Kd.R_set HO.out HC.out (by decide) 6 _, H.out.ne1, H.out.ne2, H.out.ne3, H.out.g0, H.out.t0, H.out.r0, H.out.o0⟩, hF⟩
end Go.Proofs.Ytoiejgmfgcdniaa
namespace Go.Proofs.Ytoiejgmfgcdniaa
open Go.RowKit Go.Proofs.YtoiejgmfgcdniaaW.PrintWords

/-! ### symbol -/
def symP (s : LowS) (nd : Node) (n : Nat) : Sym :=
  if nd.kind = 7 then ⟨false, (termF s.names nd.name).getD 0⟩ else if nd.kind = 6 then ⟨true, (s.rules nd.name).getD 0⟩ else ⟨true, (s.own n).getD 0⟩
def SymPost (x : Sym) (w : World) (e : Ending) (w' : World) : Prop := e = .returned (.agg #[.bool x.non, .int .i64 x.n]) ∧ Below w.heap.size w w'
theorem cell1 {w : World} {p : Addr} {v : Value} (h : w.cell? p = some v) : ∀ o, (w.alloc o).cell? p = some v := fun o => pw_cell_below (below_alloc (Below.refl _ _) o) h
theorem Later.look {K T : TypeId} {κ : Type} {kl : κ → Lit} {w W : World} {b n : Nat} {f : κ → Option Int} {sz : Nat} (h : MapRep K kl w b n f sz) (hb : Below w.heap.size w W) (law : Go.Maps.Keyed Try.prog K) (hT : Try.prog.underlying T = some (.map K 3)) {x : κ} {v : Value} (hk : keyOf Try.prog K v = some (kl x)) (y : Later W) :
    (Instr.lookup T (.map (some b)) v false).run Try.prog y.val = .ok (.int .i64 ((f x).getD 0)) y.val :=
  ((h.move (hb.block _ h.lt)).move (y.below.block _ (h.move (hb.block _ h.lt)).lt)).look law hT hk
theorem lookW {K T : TypeId} {κ : Type} {kl : κ → Lit} {w W : World} {b n : Nat} {f : κ → Option Int} {sz : Nat} (h : MapRep K kl w b n f sz) (hb : Below w.heap.size w W) (law : Go.Maps.Keyed Try.prog K) (hT : Try.prog.underlying T = some (.map K 3)) {x : κ} {v : Value} (hk : keyOf Try.prog K v = some (kl x)) :
    (Instr.lookup T (.map (some b)) v false).run Try.prog W = .ok (.int .i64 ((f x).getD 0)) W := (h.move (hb.block _ h.lt)).look law hT hk
set_option maxRecDepth 100000 in
set_option maxHeartbeats 1000000 in
theorem symbol_any (B N : Nat) (rv : Value) (w : World) (m : LowM) (s : LowS) (ns : List Node) (A1 : Option Addr) (c1 : Nat) (n : Nat) (nd : Node) (h : LSt B N rv (.slice A1 ns.length c1) w m s) (hr : Kd.C kNode w A1 ns.length ns) (hn : ns[n]? = some nd) (hsz : nd.name.size ≤ 140737488351232) :
    Calls Try.prog 98 #[.pointer (some ⟨m.g, 0, none⟩), .int .i64 n] w (SymPost (symP s nd n) w) := by
  have hlt : n < ns.length := (List.getElem?_eq_some_iff.1 hn).1
  have hmx := Kd.C_max hr
  obtain ⟨ad, nd', A2, c2, rfl, hn', g0, g1, g2, _, _⟩ := at_Node hr n hlt
  obtain rfl : nd = nd' := by rw [hn] at hn'; exact Option.some.inj hn'
  obtain ⟨_, d1, _, d3, d4, d5, _⟩ := h.cs
  have HT := Lib.hid h.terms
  have HU := Lib.hid h.rules
  have HO := Lib.hid h.own
  have HK := Lib.hid (keyS nd.name (by unfold maxLen; omega))
  have HI := Lib.hid (keyI n (WalkArith.wf_i64 (by omega)))
  have q0 := cell1 g0
  have q1 := cell1 g1
  have q2 := cell1 g2
  have hgl := blk_lt h.cells
  have HB := Lib.hid (fun o1 o2 => bel2n (w := w) o1 o2)
  have i1 : (n : Int) < (ns.length : Int) := by omega
  obtain ⟨g, bt, br, bo, nv, pv⟩ := m
  clear h hr hn hn' g0 g1 g2
  simp only at d1 d3 d4 d5 hgl
  by_cases h7 : nd.kind = 7
  · have hs : symP s nd n = ⟨false, (termF s.names nd.name).getD 0⟩ := by unfold symP; rw [if_pos h7]
    have b7 : (nd.kind == 7) = true := beq_iff_eq.2 h7
    clear h7
    rw [hs]
    generalize hv : (termF s.names nd.name).getD 0 = v
    clear hs
    go_enter Try.func98, Try.ntmps98
    go_wp2_with fail
    have hb2 := HB.out (.cells #[.bool false, .int .i64 0] 41) (.cells #[.int .i64 nd.kind, .string nd.name, .slice A2 nd.kids.length c2] 57)
    have hg0 := blk_alloc (blk_new w (.cells #[.bool false, .int .i64 0] 41)) (.cells #[.int .i64 nd.kind, .string nd.name, .slice A2 nd.kids.length c2] 57)
    have hg1 := blk_new (w.alloc (.cells #[.bool false, .int .i64 0] 41)) (.cells #[.int .i64 nd.kind, .string nd.name, .slice A2 nd.kids.length c2] 57)
    rw [size_alloc] at hg1
    generalize (w.alloc (.cells #[.bool false, .int .i64 0] 41)).alloc (.cells #[.int .i64 nd.kind, .string nd.name, .slice A2 nd.kids.length c2] 57) = W at *
    have l0 := Later.cell (pw_cell_below hb2 d3)
    have l1 := Later.cell (cells3 hg1).2.1
    have l2 := Later.look HT.out hb2 lawS Try.underlying95 HK.out
    rw [hv] at l2
    have HG0 := Lib.hid hg0
    clear hg0 hg1
    refine wp_region_later_tail 8 (by kernel_rfl) (by kernel_rfl) ?_
    simp only [List.take_succ_cons, List.take_zero, List.drop_succ_cons, List.drop_zero]
    repeat (go_big_quiet_step (fail))
    refine wpQuiet_nil ?_
    intro y
    have hgy := blk_below HG0.out y.below
    obtain ⟨e0, e1⟩ := cells2 hgy
    have f0 := blk_frozen hgy 0
    have f1 := blk_frozen hgy 1
    have hlt2 := blk_lt hgy
    clear hgy l0 l1 l2
    go_wp2_with fail
    exact bodyPost_ret (v := .agg #[.bool false, .int .i64 v]) (by simp [results, Try.results98, go_sem, e0, e1]) rfl ⟨rfl, ((blw hb2 y.below).setCell (by simp) _).setCell (by simp) _⟩
  · by_cases h6 : nd.kind = 6
    · have hs : symP s nd n = ⟨true, (s.rules nd.name).getD 0⟩ := by unfold symP; rw [if_neg h7, if_pos h6]
      have b7 : (nd.kind == 7) = false := beq_eq_false_iff_ne.2 h7
      have b6 : (nd.kind == 6) = true := beq_iff_eq.2 h6
      clear h7 h6
      rw [hs]
      generalize hv : (s.rules nd.name).getD 0 = v
      clear hs
      go_enter Try.func98, Try.ntmps98
      go_wp2_with fail
      have hb2 := HB.out (.cells #[.bool false, .int .i64 0] 41) (.cells #[.int .i64 nd.kind, .string nd.name, .slice A2 nd.kids.length c2] 57)
      have hg0 := blk_alloc (blk_new w (.cells #[.bool false, .int .i64 0] 41)) (.cells #[.int .i64 nd.kind, .string nd.name, .slice A2 nd.kids.length c2] 57)
      have hg1 := blk_new (w.alloc (.cells #[.bool false, .int .i64 0] 41)) (.cells #[.int .i64 nd.kind, .string nd.name, .slice A2 nd.kids.length c2] 57)
      rw [size_alloc] at hg1
      generalize (w.alloc (.cells #[.bool false, .int .i64 0] 41)).alloc (.cells #[.int .i64 nd.kind, .string nd.name, .slice A2 nd.kids.length c2] 57) = W at *
      have l0 := Later.cell (pw_cell_below hb2 d4)
      have l1 := Later.cell (cells3 hg1).2.1
      have l2 := Later.look HU.out hb2 lawS Try.underlying95 HK.out
      rw [hv] at l2
      have HG0 := Lib.hid hg0
      clear hg0 hg1
      refine wp_region_later_tail 8 (by kernel_rfl) (by kernel_rfl) ?_
      simp only [List.take_succ_cons, List.take_zero, List.drop_succ_cons, List.drop_zero]
      repeat (go_big_quiet_step (fail))
      refine wpQuiet_nil ?_
      intro y
      have hgy := blk_below HG0.out y.below
      obtain ⟨e0, e1⟩ := cells2 hgy
      have f0 := blk_frozen hgy 0
      have f1 := blk_frozen hgy 1
      have hlt2 := blk_lt hgy
      clear hgy l0 l1 l2
      go_wp2_with fail
      exact bodyPost_ret (v := .agg #[.bool true, .int .i64 v]) (by simp [results, Try.results98, go_sem, e0, e1]) rfl ⟨rfl, ((blw hb2 y.below).setCell (by simp) _).setCell (by simp) _⟩
    · have hs : symP s nd n = ⟨true, (s.own n).getD 0⟩ := by unfold symP; rw [if_neg h7, if_neg h6]
      have b7 : (nd.kind == 7) = false := beq_eq_false_iff_ne.2 h7
      have b6 : (nd.kind == 6) = false := beq_eq_false_iff_ne.2 h6
      have k5 : ∀ o1 o2, (Instr.lookup 96 (.map (some bo)) (.int .i64 n) false).run Try.prog ((w.alloc o1).alloc o2) = .ok (.int .i64 ((s.own n).getD 0)) ((w.alloc o1).alloc o2) := fun o1 o2 => lookW HO.out (HB.out o1 o2) lawI Try.underlying96 HI.out
      rw [hs]
      generalize (s.own n).getD 0 = v at k5
      clear h7 h6 hs
      go_enter Try.func98, Try.ntmps98
      go_wp2_with fail
      exact bodyPost_ret (v := .agg #[.bool true, .int .i64 v]) (by simp [results, Try.results98, go_sem]) rfl ⟨rfl, HB.out _ _⟩
end Go.Proofs.Ytoiejgmfgcdniaa
namespace Go.Proofs.Ytoiejgmfgcdniaa
open Go.RowKit Go.Proofs.YtoiejgmfgcdniaaW.PrintWords
open Go.Maps (Keyed)

/-! ### all -/
def AllPost (xs : List Sym) (w : World) (e : Ending) (w' : World) : Prop := ∃ v, e = .returned v ∧ kSym.R 41 w' w.heap.size (fun _ => True) v xs ∧ Below w.heap.size w w'
set_option maxRecDepth 100000 in
set_option maxHeartbeats 1000000 in
theorem all_any (F : Nat) (fst : Value) (σ : Int → Sym) (A : Option Addr) (n c : Nat) (xs : List Int) (w : World) (hr : Kd.C (Kd.int .i64) w A n xs) (hn : xs.length ≤ 1000000)
    (hcf : ∀ args W, (callFunc F args).run Try.prog W = .ok (.enter F args) W)
    (hF : ∀ x W, x ∈ xs → Below w.heap.size w W → Calls Try.prog F #[fst, .int .i64 x] W (SymPost (σ x) W)) :
    Calls Try.prog 100 #[.slice A n c, .func (.func F) #[fst] #[]] w (AllPost (xs.map σ) w) := by
  obtain rfl : n = xs.length := (Kd.C_len hr).symm
  have HF := Lib.hid hF
  have HR := Lib.hid hr
  clear hF hr
  go_enter Try.func100, Try.ntmps100
  go_wp2_with fail
  go_loopw [5, 10] (fun v i wr => ∃ k : Nat, k ≤ xs.length ∧ i = .int .i64 k ∧ Hid (kSym.R 41 wr w.heap.size (fun _ => True) v ((xs.take k).map σ)) ∧ Hid (Below w.heap.size w wr)) (fun _ i _ => xs.length - (intOf i).toNat)
  case atStart => exact ⟨0, Nat.zero_le _, rfl, Kd.R_nil _ _ _ _ _, Below.refl _ _⟩
  case round =>
    obtain ⟨k, hk, rfl, HO, HB⟩ := hrel
    by_cases hlt : k < xs.length
    · obtain ⟨ad, x, rfl, hx, d0⟩ := at_int (Kd.C_below HR.out HB.out) k hlt
      have HX := Lib.hid hx
      have HT := Lib.hid (take_of hx)
      clear hx
      go_wp2_with fail
      refine (HF.out x _ (List.mem_of_getElem? HX.out) HB.out).mono ?_
      rintro e w' ⟨rfl, hb⟩
      have HO1 := Lib.hid (Kd.R_below HO.out hb)
      have hB1 := blw HB.out hb
      clear d0 hb HO HB
      go_wp2_with (at_builtin; refine Kd.R_append kSym (w0 := w) w.heap.size rfl (.tmp 14) (.tmp 18) 37 41 _ 16 rfl Try.underlying37 info41 rfl (by decide) (by omega) _ ((xs.take k).map σ) (σ x) [.bool (σ x).non, .int .i64 (σ x).n] (fun _ => True) (fun _ => False) rfl rfl (kSym_mkM _ _ _ (σ x)) (fun _ hk => hk.elim) (fun _ _ => trivial) HO1.out hB1 hB1.size (by rw [List.length_map, List.length_take]; omega) ?_; intro v1 w1 ho hb1 hg _; have HO2 := Lib.hid ho; have HB2 := Lib.hid hb1; clear ho hb1 hg HO1 hB1)
      go_roundw
      case rel => exact ⟨k + 1, by omega, by go_num, by rw [HT.out, List.map_append]; exact HO2, HB2⟩
      case measure => simp [intOf]; omega
    · have HE : Hid (xs.take k = xs) := Lib.hid (List.take_of_length_le (by omega))
      go_wp2_with fail
      go_ret
      exact ⟨_, rfl, by have := HO.out; rwa [HE.out] at this, HB.out⟩

/-! ### a store into a map, at the operation -/
end Go.Proofs.Ytoiejgmfgcdniaa
