import Derived.Test.YtoiejgmfgcdniaaFrame
import Derived.Test.YtoiejgmfgcdniaaLits
import Derived.Test.YtoiejgmfgcdniaaRules4
import Derived.StillTailTactics
import Derived.Deep.RegionHeld3
set_option linter.unusedVariables false
set_option linter.unusedSimpArgs false
namespace Go.Proofs.Ytoiejgmfgcdniaa
open Go.RowKit Go.Proofs.YtoiejgmfgcdniaaW.PrintWords

/-! ### the reader's state -/
structure RdS where
  pos : Nat
  rules : List Rule
  nodes : List Node
  given : List Use
  used : List Use
structure RdM where
  g : Nat
  rv : Value
  nv : Value
  gv : Value
  uv : Value
abbrev rdT : List Nat := [114, 59, 57, 187]
structure RSt (B : Nat) (ok : Nat → Prop) (tv : Value) (en : Int) (w : World) (m : RdM) (s : RdS) : Prop where
  cells : w.heap[m.g]? = some (.cells #[tv, .int .i64 s.pos, .int .i64 en, m.rv, m.nv, m.gv, m.uv] 114 (0, 0))
  rules : Kd.R kRule 59 w B ok m.rv s.rules
  nodes : Kd.R kNode 57 w B ok m.nv s.nodes
  given : Kd.R kUse 187 w B (fun k => ok k ∧ some k ≠ m.uv.ownBlock) m.gv s.given
  used : Kd.R kUse 187 w B (fun k => ok k ∧ some k ≠ m.gv.ownBlock) m.uv s.used
  g0 : B ≤ m.g
/-- What a call on the state may turn: the state's own block g, and rows of its types in the blocks that are ok. -/
structure Fo (ok : Nat → Prop) (B g : Nat) (w w1 : World) : Prop where
  fr : Fr B [] rdT w w1
  keep : ∀ k, k < w.heap.size → ¬ ok k → k ≠ g → w1.heap[k]? = w.heap[k]?
section
variable {ok ok' : Nat → Prop} {B g : Nat} {w w1 w2 : World}
theorem Fo.size (h : Fo ok B g w w1) : w.heap.size ≤ w1.heap.size := h.fr.size
theorem Fo.toBelow (h : Fo ok B g w w1) (hB : B ≤ w.heap.size) : Below B w w1 := h.fr.toBelow hB
theorem Fo.refl (ok : Nat → Prop) (B g : Nat) (w : World) : Fo ok B g w w := ⟨Fr.refl _ _ _ _, fun _ _ _ _ => rfl⟩
theorem Fo.trans (h : Fo ok B g w w1) (k : Fo ok B g w1 w2) : Fo ok B g w w2 := ⟨h.fr.trans k.fr, fun i hi h1 h2 => (k.keep i (Nat.lt_of_lt_of_le hi h.size) h1 h2).trans (h.keep i hi h1 h2)⟩
theorem Fo.of_below (h : Below w.heap.size w w1) : Fo ok B g w w1 := ⟨Fr.of_below h, fun k hk _ _ => h.block k hk⟩
theorem Fo.weak (h : Fo ok' B g w w1) (hok : ∀ k, ok' k → ok k) : Fo ok B g w w1 := ⟨h.fr, fun k hk h1 h2 => h.keep k hk (fun h3 => h1 (hok k h3)) h2⟩
theorem Fo.R {α : Type} {d : Kd α} {e base : Nat} {okr : Nat → Prop} {v : Value} {xs : List α} (h : Fo ok B g w w1) (hR : d.R e w base okr v xs) (ht : ∀ q, q ∈ e :: d.E → q ∉ rdT) (hM : ∀ k, k ∈ ([] : List Nat) → ∃ es c, w.heap[k]? = some (.map es c)) : d.R e w1 base okr v xs := h.fr.R hR ht hM
theorem Fo.set {j : Nat} {u : Value} {cells : Array Value} (hg : w.heap[g]? = some (.cells cells 114 (0, 0))) (hB : B ≤ g) : Fo ok B g w (w.setCell ⟨g, j, none⟩ u) := ⟨Fr.set hg (by decide) hB, fun k _ _ h2 => Below.heap_setCell w _ u k h2⟩
theorem Fo.grown {α : Type} {d : Kd α} {e base : Nat} {okr : Nat → Prop} {v : Value} {xs : List α} (hR : d.R e w base okr v xs) (he : e ∈ rdT) (hB : B ≤ base) (hok : ∀ k, okr k → ok k) (hg : w.grownBy w1 v.ownBlock) : Fo ok B g w w1 := ⟨Fr.grown hR he hB hg, fun k hk h1 _ => hg.block k hk (fun e => h1 (hok k (hR.1 k e.symm)))⟩
theorem Fo.far {row : Option Nat} (h : Fo ok B g w w1) (hg : w1.grownBy w2 row) (hr : ∀ k, row = some k → w.heap.size ≤ k) : Fo ok B g w w2 :=
  ⟨⟨hg.os.trans h.fr.os, hg.tape.trans h.fr.tape, hg.output.trans h.fr.output, Nat.le_trans h.size hg.size, fun k hk hc => (hg.block k (Nat.lt_of_lt_of_le hk h.size) (fun e => by have := hr k e.symm; omega)).trans (h.fr.block k hk hc)⟩,
   fun k hk h1 h2 => (hg.block k (Nat.lt_of_lt_of_le hk h.size) (fun e => by have := hr k e.symm; omega)).trans (h.keep k hk h1 h2)⟩
end
section
variable {B : Nat} {ok : Nat → Prop} {tv : Value} {en : Int} {w w1 : World} {m : RdM} {s : RdS}
theorem RSt.cs (h : RSt B ok tv en w m s) : w.cell? ⟨m.g, 0, none⟩ = some tv ∧ w.cell? ⟨m.g, 1, none⟩ = some (.int .i64 s.pos) ∧ w.cell? ⟨m.g, 2, none⟩ = some (.int .i64 en) ∧ w.cell? ⟨m.g, 3, none⟩ = some m.rv ∧
    w.cell? ⟨m.g, 4, none⟩ = some m.nv ∧ w.cell? ⟨m.g, 5, none⟩ = some m.gv ∧ w.cell? ⟨m.g, 6, none⟩ = some m.uv :=
  ⟨(blk_cell h.cells 0).trans rfl, (blk_cell h.cells 1).trans rfl, (blk_cell h.cells 2).trans rfl, (blk_cell h.cells 3).trans rfl, (blk_cell h.cells 4).trans rfl, (blk_cell h.cells 5).trans rfl, (blk_cell h.cells 6).trans rfl⟩
theorem RSt.below (h : RSt B ok tv en w m s) (hb : Below w.heap.size w w1) : RSt B ok tv en w1 m s :=
  ⟨blk_below h.cells hb, Kd.R_below h.rules hb, Kd.R_below h.nodes hb, Kd.R_below h.given hb, Kd.R_below h.used hb, h.g0⟩
/-- The place is moved. -/
theorem RSt.move (h : RSt B ok tv en w m s) (p : Nat) : RSt B ok tv en (w.setCell ⟨m.g, 1, none⟩ (.int .i64 p)) m { s with pos := p } ∧ Fo ok B m.g w (w.setCell ⟨m.g, 1, none⟩ (.int .i64 p)) :=
  ⟨⟨(blk_set h.cells 1 _).trans rfl, Kd.R_set h.rules h.cells (by decide) 1 _, Kd.R_set h.nodes h.cells (by decide) 1 _, Kd.R_set h.given h.cells (by decide) 1 _, Kd.R_set h.used h.cells (by decide) 1 _, h.g0⟩, Fo.set h.cells h.g0⟩
end
/-- The tokens, as they lie. -/
structure TokRow (B : Nat) (A : Option Addr) (toks : List Tok) (w0 : World) : Prop where
  row : Kd.C kTok w0 A toks.length toks
  base : w0.heap.size ≤ B
def isMark (toks : List Tok) (p : Nat) (mark : ByteArray) : Bool := match toks[p]? with | some t => decide (t.kind = 3) && decide (t.text = mark) | none => false
/-! ### ahead -/
set_option maxRecDepth 100000 in
set_option maxHeartbeats 1000000 in
theorem ahead_any (B : Nat) (ok : Nat → Prop) (A : Option Addr) (c : Nat) (toks : List Tok) (en : Int) (w : World) (m : RdM) (s : RdS) (mark : ByteArray) (h : RSt B ok (.slice A toks.length c) en w m s) (hr : Kd.C kTok w A toks.length toks) :
    Calls Try.prog 199 #[.pointer (some ⟨m.g, 0, none⟩), .string mark] w fun e w' => e = .returned (.bool (isMark toks s.pos mark)) ∧ Below w.heap.size w w' := by
  obtain ⟨d0, d1, _⟩ := h.cs
  have hgl := blk_lt h.cells
  have hmx := Kd.C_max hr
  have HB := Lib.hid (fun nq => pw_below_drewN (Below.refl w.heap.size w) nq)
  obtain ⟨g, rv, nv, gv, uv⟩ := m
  simp only at d0 d1 hgl
  have hq : Hid (isMark toks s.pos mark = match toks[s.pos]? with | some t => decide (t.kind = 3) && decide (t.text = mark) | none => false) := Lib.hid rfl
  generalize isMark toks s.pos mark = res at hq ⊢
  obtain ⟨p, rs, ns, gs, us⟩ := s
  simp only at d1 hq
  by_cases hlt : p < toks.length
  · obtain ⟨ad, x, rfl, hx, e0, e1, e2⟩ := at_Tok hr p hlt
    have HQ : Hid (res = (decide (x.kind = 3) && decide (x.text = mark))) := Lib.hid (by rw [hq.out, hx])
    clear h hr hx hq
    by_cases hk : x.kind = 3
    · have b3 : (x.kind == 3) = true := beq_iff_eq.2 hk
      have HR : Hid (res = (x.text.toList == mark.toList)) := Lib.hid (by rw [HQ.out, str_eq, decide_eq_true hk]; rfl)
      clear hk HQ
      cases hs : (x.text.toList == mark.toList)
      · rw [hs] at HR
        go_enter Try.func199, Try.ntmps199
        go_upto_region 1 with (fail)
        go_quiet (fail)
        go_wp2_with fail
        go_ret
        exact ⟨ret_bool HR.out.symm, HB.out _⟩
      · rw [hs] at HR
        go_enter Try.func199, Try.ntmps199
        go_upto_region 1 with (fail)
        go_quiet (fail)
        go_wp2_with fail
        go_ret
        exact ⟨ret_bool HR.out.symm, HB.out _⟩
    · have b3 : (x.kind == 3) = false := beq_eq_false_iff_ne.2 hk
      have HR : Hid (res = false) := Lib.hid (by rw [HQ.out, decide_eq_false hk]; rfl)
      clear hk HQ
      go_enter Try.func199, Try.ntmps199
      go_upto_region 1 with (fail)
      go_quiet (fail)
      go_wp2_with fail
      go_ret
      exact ⟨ret_bool HR.out.symm, HB.out _⟩
  · have HR : Hid (res = false) := Lib.hid (by rw [hq.out, List.getElem?_eq_none (by omega)])
    clear h hr hq
    go_enter Try.func199, Try.ntmps199
    go_upto_region 1 with (fail)
    go_quiet (fail)
    go_wp2_with fail
    go_ret
    exact ⟨ret_bool HR.out.symm, HB.out _⟩
end Go.Proofs.Ytoiejgmfgcdniaa
