import Derived.Test.YtoiejgmfgcdniaaXLits
import Derived.Test.YtoiejgmfgcdniaaXRules4
import Derived.StillTailTactics
import Derived.Deep.RegionHeld3
import Derived.Test.YtoiejgmfgcdniaaXTail
set_option linter.unusedVariables false
set_option linter.unusedSimpArgs false
namespace Go.Proofs.Ytoiejgmfgcdniaa
open Go.RowKit Go.Proofs.YtoiejgmfgcdniaaW.PrintWords

/-! ### the reader's state -/
structure RdS where
  pos : Nat
  rules : List Rule
  nodes : List Node
  given : List Use
  used : List Use
structure RdM where
  g : Nat
  rv : Value
  nv : Value
  gv : Value
  uv : Value
abbrev rdT : List Nat := [114, 59, 57, 187]
structure RSt (B : Nat) (ok : Nat → Prop) (tv : Value) (en : Int) (w : World) (m : RdM) (s : RdS) : Prop where
  cells : w.heap[m.g]? = some (.cells #[tv, .int .i64 s.pos, .int .i64 en, m.rv, m.nv, m.gv, m.uv] 114 (0, 0))
  rules : Kd.R kRule 59 w B ok m.rv s.rules
  nodes : Kd.R kNode 57 w B ok m.nv s.nodes
  given : Kd.R kUse 187 w B (fun k => ok k ∧ some k ≠ m.uv.ownBlock) m.gv s.given
  used : Kd.R kUse 187 w B (fun k => ok k ∧ some k ≠ m.gv.ownBlock) m.uv s.used
  g0 : B ≤ m.g
/-- What a call on the state may turn: the state's own block g, and rows of its types in the blocks that are ok. -/
structure Fo (ok : Nat → Prop) (B g : Nat) (w w1 : World) : Prop where
  fr : Fr B [] rdT w w1
  keep : ∀ k, k < w.heap.size → ¬ ok k → k ≠ g → w1.heap[k]? = w.heap[k]?
section
variable {ok ok' : Nat → Prop} {B g : Nat} {w w1 w2 : World}
theorem Fo.size (h : Fo ok B g w w1) : w.heap.size ≤ w1.heap.size := h.fr.size
theorem Fo.toBelow (h : Fo ok B g w w1) (hB : B ≤ w.heap.size) : Below B w w1 := h.fr.toBelow hB
theorem Fo.refl (ok : Nat → Prop) (B g : Nat) (w : World) : Fo ok B g w w := ⟨Fr.refl _ _ _ _, fun _ _ _ _ => rfl⟩
theorem Fo.trans (h : Fo ok B g w w1) (k : Fo ok B g w1 w2) : Fo ok B g w w2 := ⟨h.fr.trans k.fr, fun i hi h1 h2 => (k.keep i (Nat.lt_of_lt_of_le hi h.size) h1 h2).trans (h.keep i hi h1 h2)⟩
theorem Fo.of_below (h : Below w.heap.size w w1) : Fo ok B g w w1 := ⟨Fr.of_below h, fun k hk _ _ => h.block k hk⟩
theorem Fo.weak (h : Fo ok' B g w w1) (hok : ∀ k, ok' k → ok k) : Fo ok B g w w1 := ⟨h.fr, fun k hk h1 h2 => h.keep k hk (fun h3 => h1 (hok k h3)) h2⟩
theorem Fo.R {α : Type} {d : Kd α} {e base : Nat} {okr : Nat → Prop} {v : Value} {xs : List α} (h : Fo ok B g w w1) (hR : d.R e w base okr v xs) (ht : ∀ q, q ∈ e :: d.E → q ∉ rdT) (hM : ∀ k, k ∈ ([] : List Nat) → ∃ es c, w.heap[k]? = some (.map es c)) : d.R e w1 base okr v xs := h.fr.R hR ht hM
theorem Fo.set {j : Nat} {u : Value} {cells : Array Value} (hg : w.heap[g]? = some (.cells cells 114 (0, 0))) (hB : B ≤ g) : Fo ok B g w (w.setCell ⟨g, j, none⟩ u) := ⟨Fr.set hg (by decide) hB, fun k _ _ h2 => Below.heap_setCell w _ u k h2⟩
theorem Fo.grown {α : Type} {d : Kd α} {e base : Nat} {okr : Nat → Prop} {v : Value} {xs : List α} (hR : d.R e w base okr v xs) (he : e ∈ rdT) (hB : B ≤ base) (hok : ∀ k, okr k → ok k) (hg : w.grownBy w1 v.ownBlock) : Fo ok B g w w1 := ⟨Fr.grown hR he hB hg, fun k hk h1 _ => hg.block k hk (fun e => h1 (hok k (hR.1 k e.symm)))⟩
theorem Fo.far {row : Option Nat} (h : Fo ok B g w w1) (hg : w1.grownBy w2 row) (hr : ∀ k, row = some k → w.heap.size ≤ k) : Fo ok B g w w2 :=
  ⟨⟨hg.os.trans h.fr.os, hg.tape.trans h.fr.tape, hg.output.trans h.fr.output, Nat.le_trans h.size hg.size, fun k hk hc => (hg.block k (Nat.lt_of_lt_of_le hk h.size) (fun e => by have := hr k e.symm; omega)).trans (h.fr.block k hk hc)⟩,
   fun k hk h1 h2 => (hg.block k (Nat.lt_of_lt_of_le hk h.size) (fun e => by have := hr k e.symm; omega)).trans (h.keep k hk h1 h2)⟩
end
section
variable {B : Nat} {ok : Nat → Prop} {tv : Value} {en : Int} {w w1 : World} {m : RdM} {s : RdS}
theorem RSt.cs (h : RSt B ok tv en w m s) : w.cell? ⟨m.g, 0, none⟩ = some tv ∧ w.cell? ⟨m.g, 1, none⟩ = some (.int .i64 s.pos) ∧ w.cell? ⟨m.g, 2, none⟩ = some (.int .i64 en) ∧ w.cell? ⟨m.g, 3, none⟩ = some m.rv ∧
    w.cell? ⟨m.g, 4, none⟩ = some m.nv ∧ w.cell? ⟨m.g, 5, none⟩ = some m.gv ∧ w.cell? ⟨m.g, 6, none⟩ = some m.uv :=
  ⟨(blk_cell h.cells 0).trans rfl, (blk_cell h.cells 1).trans rfl, (blk_cell h.cells 2).trans rfl, (blk_cell h.cells 3).trans rfl, (blk_cell h.cells 4).trans rfl, (blk_cell h.cells 5).trans rfl, (blk_cell h.cells 6).trans rfl⟩
theorem RSt.below (h : RSt B ok tv en w m s) (hb : Below w.heap.size w w1) : RSt B ok tv en w1 m s :=
  ⟨blk_below h.cells hb, Kd.R_below h.rules hb, Kd.R_below h.nodes hb, Kd.R_below h.given hb, Kd.R_below h.used hb, h.g0⟩
/-- The place is moved. -/
theorem RSt.move (h : RSt B ok tv en w m s) (p : Nat) : RSt B ok tv en (w.setCell ⟨m.g, 1, none⟩ (.int .i64 p)) m { s with pos := p } ∧ Fo ok B m.g w (w.setCell ⟨m.g, 1, none⟩ (.int .i64 p)) :=
  ⟨⟨(blk_set h.cells 1 _).trans rfl, Kd.R_set h.rules h.cells (by decide) 1 _, Kd.R_set h.nodes h.cells (by decide) 1 _, Kd.R_set h.given h.cells (by decide) 1 _, Kd.R_set h.used h.cells (by decide) 1 _, h.g0⟩, Fo.set h.cells h.g0⟩
end
/-- The tokens, as they lie. -/
structure TokRow (B : Nat) (A : Option Addr) (toks : List Tok) (w0 : World) : Prop where
  row : Kd.C kTok w0 A toks.length toks
  base : w0.heap.size ≤ B
def isMark (toks : List Tok) (p : Nat) (mark : ByteArray) : Bool := match toks[p]? with | some t => decide (t.kind = 3) && decide (t.text = mark) | none => false
/-! ### ahead -/
set_option maxRecDepth 100000 in
set_option maxHeartbeats 1000000 in
theorem ahead_any (B : Nat) (ok : Nat → Prop) (A : Option Addr) (c : Nat) (toks : List Tok) (en : Int) (w : World) (m : RdM) (s : RdS) (mark : ByteArray) (h : RSt B ok (.slice A toks.length c) en w m s) (hr : Kd.C kTok w A toks.length toks) :
    Calls Try.prog 199 #[.pointer (some ⟨m.g, 0, none⟩), .string mark] w fun e w' => e = .returned (.bool (isMark toks s.pos mark)) ∧ Below w.heap.size w w' := by
  obtain ⟨d0, d1, _⟩ := h.cs
  have hgl := blk_lt h.cells
  have hmx := Kd.C_max hr
  have HB := Lib.hid (fun nq => pw_below_drewN (Below.refl w.heap.size w) nq)
  obtain ⟨g, rv, nv, gv, uv⟩ := m
  simp only at d0 d1 hgl
  have hq : Hid (isMark toks s.pos mark = match toks[s.pos]? with | some t => decide (t.kind = 3) && decide (t.text = mark) | none => false) := Lib.hid rfl
  generalize isMark toks s.pos mark = res at hq ⊢
  obtain ⟨p, rs, ns, gs, us⟩ := s
  simp only at d1 hq
  by_cases hlt : p < toks.length
  · obtain ⟨ad, x, rfl, hx, e0, e1, e2⟩ := at_Tok hr p hlt
    have HQ : Hid (res = (decide (x.kind = 3) && decide (x.text = mark))) := Lib.hid (by rw [hq.out, hx])
    clear h hr hx hq
    by_cases hk : x.kind = 3
    · have b3 : (x.kind == 3) = true := beq_iff_eq.2 hk
      have HR : Hid (res = (x.text.toList == mark.toList)) := Lib.hid (by rw [HQ.out, str_eq, decide_eq_true hk]; rfl)
      clear hk HQ
      cases hs : (x.text.toList == mark.toList)
      · rw [hs] at HR
        go_enter Try.func199, Try.ntmps199
        go_upto_region 1 with (fail)
        go_quiet (fail)
        go_wp2_with fail
        go_ret
        exact ⟨ret_bool HR.out.symm, HB.out _⟩
      · rw [hs] at HR
        go_enter Try.func199, Try.ntmps199
        go_upto_region 1 with (fail)
        go_quiet (fail)
        go_wp2_with fail
        go_ret
        exact ⟨ret_bool HR.out.symm, HB.out _⟩
    · have b3 : (x.kind == 3) = false := beq_eq_false_iff_ne.2 hk
      have HR : Hid (res = false) := Lib.hid (by rw [HQ.out, decide_eq_false hk]; rfl)
      clear hk HQ
      go_enter Try.func199, Try.ntmps199
      go_upto_region 1 with (fail)
      go_quiet (fail)
      go_wp2_with fail
      go_ret
      exact ⟨ret_bool HR.out.symm, HB.out _⟩
  · have HR : Hid (res = false) := Lib.hid (by rw [hq.out, List.getElem?_eq_none (by omega)])
    clear h hr hq
    go_enter Try.func199, Try.ntmps199
    go_upto_region 1 with (fail)
    go_quiet (fail)
    go_wp2_with fail
    go_ret
    exact ⟨ret_bool HR.out.symm, HB.out _⟩
end Go.Proofs.Ytoiejgmfgcdniaa
namespace Go.Proofs.Ytoiejgmfgcdniaa
open Go.RowKit Go.Proofs.YtoiejgmfgcdniaaW.PrintWords

/-! ### take, fail, must -/
def takeS (toks : List Tok) (s : RdS) (mark : ByteArray) : RdS := if isMark toks s.pos mark then { s with pos := s.pos + 1 } else s
def TakePost (B : Nat) (ok : Nat → Prop) (tv : Value) (toks : List Tok) (en : Int) (w : World) (m : RdM) (s : RdS) (mark : ByteArray) (e : Ending) (w' : World) : Prop :=
  e = .returned (.bool (isMark toks s.pos mark)) ∧ RSt B ok tv en w' m (takeS toks s mark) ∧ Fo ok B m.g w w'
theorem isMark_lt {toks : List Tok} {p : Nat} {mark : ByteArray} (h : isMark toks p mark = true) : p < toks.length := by
  unfold isMark at h
  cases hx : toks[p]? with
  | none => rw [hx] at h; cases h
  | some t => exact (List.getElem?_eq_some_iff.1 hx).1
set_option maxRecDepth 100000 in
set_option maxHeartbeats 1000000 in
theorem take_any (B : Nat) (ok : Nat → Prop) (A : Option Addr) (c : Nat) (toks : List Tok) (en : Int) (w : World) (m : RdM) (s : RdS) (mark : ByteArray) (h : RSt B ok (.slice A toks.length c) en w m s) (hr : Kd.C kTok w A toks.length toks) :
    Calls Try.prog 181 #[.pointer (some ⟨m.g, 0, none⟩), .string mark] w (TakePost B ok (.slice A toks.length c) toks en w m s mark) := by
  have H := Lib.hid h
  have HR := Lib.hid hr
  have hmx := Kd.C_max hr
  clear h hr
  cases hm : isMark toks s.pos mark
  · have HM := Lib.hid hm
    have HT : Hid (takeS toks s mark = s) := Lib.hid (by unfold takeS; rw [if_neg (by simp [hm])])
    clear hm
    go_enter Try.func181, Try.ntmps181
    go_wp2_with fail
    refine (ahead_any B ok A c toks en w m s mark H.out HR.out).mono ?_
    rintro e w1 ⟨rfl, hb⟩
    rw [HM.out]
    have HB := Lib.hid hb
    clear hb
    go_wp2_with fail
    go_ret
    exact ⟨ret_bool HM.out.symm, by rw [HT.out]; exact H.out.below HB.out, Fo.of_below HB.out⟩
  · have HM := Lib.hid hm
    have HT : Hid (takeS toks s mark = { s with pos := s.pos + 1 }) := Lib.hid (by unfold takeS; rw [if_pos hm])
    have hlt := isMark_lt hm
    clear hm
    go_enter Try.func181, Try.ntmps181
    go_wp2_with fail
    refine (ahead_any B ok A c toks en w m s mark H.out HR.out).mono ?_
    rintro e w1 ⟨rfl, hb⟩
    rw [HM.out]
    have HB := Lib.hid hb
    have H1 := Lib.hid (H.out.below hb)
    obtain ⟨d0, d1, _⟩ := H1.out.cs
    have hgl := blk_lt H1.out.cells
    have hgf := blk_frozen H1.out.cells 1
    clear hb
    go_wp2_with fail
    go_ret
    have hmv := H1.out.move (s.pos + 1)
    rw [show ((s.pos + 1 : Nat) : Int) = (s.pos : Int) + 1 by omega] at hmv
    exact ⟨ret_bool HM.out.symm, by rw [HT.out]; exact hmv.1, (Fo.of_below HB.out).trans hmv.2⟩
def failP (toks : List Tok) (en : Int) (p : Nat) : Int := match toks[p]? with | some t => t.pos | none => en
def Wrong (p : Int) (e : Ending) : Prop := e = .panicked [{ v := .iface 184 (.int .i64 p), recovered := false }]
set_option maxRecDepth 100000 in
set_option maxHeartbeats 1000000 in
theorem fail_any (B : Nat) (ok : Nat → Prop) (A : Option Addr) (c : Nat) (toks : List Tok) (en : Int) (w : World) (m : RdM) (s : RdS) (h : RSt B ok (.slice A toks.length c) en w m s) (hr : Kd.C kTok w A toks.length toks) :
    Calls Try.prog 180 #[.pointer (some ⟨m.g, 0, none⟩)] w fun e w' => Wrong (failP toks en s.pos) e ∧ Below w.heap.size w w' := by
  obtain ⟨d0, d1, d2, _⟩ := h.cs
  have hgl := blk_lt h.cells
  have hmx := Kd.C_max hr
  have HB := Lib.hid (fun nq => pw_below_drewN (Below.refl w.heap.size w) nq)
  obtain ⟨g, rv, nv, gv, uv⟩ := m
  simp only at d0 d1 d2 hgl
  obtain ⟨p, rs, ns, gs, us⟩ := s
  simp only at d1 ⊢
  by_cases hlt : p < toks.length
  · obtain ⟨ad, x, rfl, hx, e0, e1, e2⟩ := at_Tok hr p hlt
    have HQ : Hid (failP toks en p = x.pos) := Lib.hid (by unfold failP; rw [hx])
    clear h hr hx
    rw [HQ.out]
    go_enter Try.func180, Try.ntmps180
    go_upto_region 0 with (fail)
    go_quiet (fail)
    go_upto_region 1 with (fail)
    have l0 := Later.cell (pw_cell_below (HB.out nq) d0)
    have l1 := Later.cell (pw_cell_below (HB.out nq) d1)
    have l2 := Later.cell (pw_cell_below (HB.out nq) e2)
    refine wp_region_later_tail 12 (by kernel_rfl) (by kernel_rfl) ?_
    simp only [List.take_succ_cons, List.take_zero, List.drop_succ_cons, List.drop_zero]
    repeat (go_big_quiet_step (fail))
    refine wpQuiet_nil ?_
    intro y
    have HY := Lib.hid (blw (HB.out nq) y.below)
    clear l0 l1 l2
    go_wp2_with fail
    exact ⟨rfl, rfl, HY.out⟩
  · have HQ : Hid (failP toks en p = en) := Lib.hid (by unfold failP; rw [List.getElem?_eq_none (by omega)])
    clear h hr
    rw [HQ.out]
    go_enter Try.func180, Try.ntmps180
    go_upto_region 0 with (fail)
    go_quiet (fail)
    go_wp2_with fail
    exact ⟨rfl, rfl, HB.out _⟩
def MustPost (B : Nat) (ok : Nat → Prop) (tv : Value) (toks : List Tok) (en : Int) (w : World) (m : RdM) (s : RdS) (mark : ByteArray) (e : Ending) (w' : World) : Prop :=
  if isMark toks s.pos mark then e = .returned (.tuple #[]) ∧ RSt B ok tv en w' m { s with pos := s.pos + 1 } ∧ Fo ok B m.g w w' else Wrong (failP toks en s.pos) e ∧ Fo ok B m.g w w'
set_option maxRecDepth 100000 in
set_option maxHeartbeats 1000000 in
theorem must_any (w0 : World) (ok : Nat → Prop) (A : Option Addr) (c : Nat) (toks : List Tok) (en : Int) (w : World) (m : RdM) (s : RdS) (mark : ByteArray) (ht : Kd.C kTok w0 A toks.length toks) (hw : Below w0.heap.size w0 w) (h : RSt w0.heap.size ok (.slice A toks.length c) en w m s) :
    Calls Try.prog 155 #[.pointer (some ⟨m.g, 0, none⟩), .string mark] w (MustPost w0.heap.size ok (.slice A toks.length c) toks en w m s mark) := by
  have H := Lib.hid h
  have HW := Lib.hid hw
  have HR := Lib.hid (Kd.C_below ht hw)
  have HK := Lib.hid ht
  clear h ht hw
  cases hm : isMark toks s.pos mark
  · have HM := Lib.hid hm
    have HT : Hid (takeS toks s mark = s) := Lib.hid (by unfold takeS; rw [if_neg (by simp [hm])])
    have HP : Hid (∀ e w', MustPost w0.heap.size ok (.slice A toks.length c) toks en w m s mark e w' = (Wrong (failP toks en s.pos) e ∧ Fo ok w0.heap.size m.g w w')) := Lib.hid (fun e w' => by unfold MustPost; rw [if_neg (by simp [hm])])
    clear hm
    go_enter Try.func155, Try.ntmps155
    go_wp2_with fail
    refine (take_any w0.heap.size ok A c toks en w m s mark H.out HR.out).mono ?_
    rintro e w1 ⟨rfl, hS, hF⟩
    rw [HM.out]
    rw [HT.out] at hS
    have H1 := Lib.hid hS
    have HF := Lib.hid hF
    clear hS hF
    go_wp2_with fail
    refine (fail_any w0.heap.size ok A c toks en w1 m s H1.out (Kd.C_below HK.out (HW.out.trans (HF.out.toBelow HW.out.size)))).mono ?_
    rintro e w2 ⟨he, hb2⟩
    unfold Wrong at he
    subst he
    have HF2 := Lib.hid (HF.out.trans (Fo.of_below hb2))
    clear hb2
    go_wp2_with fail
    refine ⟨rfl, ?_⟩
    rw [HP.out]
    exact ⟨rfl, HF2.out⟩
  · have HM := Lib.hid hm
    have HT : Hid (takeS toks s mark = { s with pos := s.pos + 1 }) := Lib.hid (by unfold takeS; rw [if_pos hm])
    have HP : Hid (∀ e w', MustPost w0.heap.size ok (.slice A toks.length c) toks en w m s mark e w' = (e = .returned (.tuple #[]) ∧ RSt w0.heap.size ok (.slice A toks.length c) en w' m { s with pos := s.pos + 1 } ∧ Fo ok w0.heap.size m.g w w')) := Lib.hid (fun e w' => by unfold MustPost; rw [if_pos hm])
    clear hm
    go_enter Try.func155, Try.ntmps155
    go_wp2_with fail
    refine (take_any w0.heap.size ok A c toks en w m s mark H.out HR.out).mono ?_
    rintro e w1 ⟨rfl, hS, hF⟩
    rw [HM.out]
    rw [HT.out] at hS
    have H1 := Lib.hid hS
    have HF := Lib.hid hF
    clear hS hF
    go_wp2_with fail
    go_end0
    rw [HP.out]
    exact ⟨rfl, H1.out, HF.out⟩
end Go.Proofs.Ytoiejgmfgcdniaa
namespace Go.Proofs.Ytoiejgmfgcdniaa
open Go.RowKit Go.Proofs.YtoiejgmfgcdniaaW.PrintWords

/-! ### begins -/
def beginsB (toks : List Tok) (p : Nat) : Bool := match toks[p]? with | some t => decide (t.kind ≠ 3) || isMark toks p ⟨#[40]⟩ | none => false
set_option maxRecDepth 100000 in
set_option maxHeartbeats 1000000 in
theorem begins_any (B : Nat) (ok : Nat → Prop) (A : Option Addr) (c : Nat) (toks : List Tok) (en : Int) (w : World) (m : RdM) (s : RdS) (h : RSt B ok (.slice A toks.length c) en w m s) (hr : Kd.C kTok w A toks.length toks) :
    Calls Try.prog 182 #[.pointer (some ⟨m.g, 0, none⟩)] w fun e w' => e = .returned (.bool (beginsB toks s.pos)) ∧ Below w.heap.size w w' := by
  obtain ⟨d0, d1, _⟩ := h.cs
  have hgl := blk_lt h.cells
  have hmx := Kd.C_max hr
  have HB := Lib.hid (fun nq => pw_below_drewN (Below.refl w.heap.size w) nq)
  have HA := Lib.hid (fun y : Later w => ahead_any B ok A c toks en y.val m s ⟨#[40]⟩ (h.below y.below) (Kd.C_below hr y.below))
  have hq : Hid (beginsB toks s.pos = match toks[s.pos]? with | some t => decide (t.kind ≠ 3) || isMark toks s.pos ⟨#[40]⟩ | none => false) := Lib.hid rfl
  generalize beginsB toks s.pos = res at hq ⊢
  generalize isMark toks s.pos ⟨#[40]⟩ = mk at hq HA
  obtain ⟨g, rv, nv, gv, uv⟩ := m
  simp only at d0 d1 hgl HA
  obtain ⟨p, rs, ns, gs, us⟩ := s
  simp only at d1 hq
  by_cases hlt : p < toks.length
  · obtain ⟨ad, x, rfl, hx, e0, e1, e2⟩ := at_Tok hr p hlt
    have HQ : Hid (res = (decide (x.kind ≠ 3) || mk)) := Lib.hid (by rw [hq.out, hx])
    clear h hr hx hq
    by_cases hk : x.kind = 3
    · have b3 : (x.kind != 3) = false := by simp [hk]
      have HR : Hid (res = mk) := Lib.hid (by rw [HQ.out]; simp [hk])
      clear hk HQ
      go_enter Try.func182, Try.ntmps182
      go_upto_region 1 with (fail)
      have l0 := Later.cell d0
      have l1 := Later.cell d1
      have l2 := Later.cell e0
      refine wp_region_later (by kernel_rfl) (by kernel_rfl) ?_
      repeat (go_big_quiet_step ((go_at_call 199; exact Later.call _ (HA.out _))))
      refine wpQuiet_nil ?_
      rintro _ ⟨y, rfl⟩
      have HY := Lib.hid y.below
      clear l0 l1 l2
      go_wp2_with fail
      go_ret
      exact ⟨ret_bool HR.out.symm, HY.out⟩
    · have b3 : (x.kind != 3) = true := bne_iff_ne.2 hk
      have HR : Hid (res = true) := Lib.hid (by rw [HQ.out]; simp [hk])
      clear hk HQ
      go_enter Try.func182, Try.ntmps182
      go_upto_region 1 with (fail)
      have l0 := Later.cell d0
      have l1 := Later.cell d1
      have l2 := Later.cell e0
      refine wp_region_later (by kernel_rfl) (by kernel_rfl) ?_
      repeat (go_big_quiet_step (fail))
      refine wpQuiet_nil ?_
      rintro _ ⟨y, rfl⟩
      have HY := Lib.hid y.below
      clear l0 l1 l2
      go_wp2_with fail
      go_ret
      exact ⟨ret_bool HR.out.symm, HY.out⟩
  · have HR : Hid (res = false) := Lib.hid (by rw [hq.out, List.getElem?_eq_none (by omega)])
    clear h hr hq
    go_enter Try.func182, Try.ntmps182
    go_upto_region 1 with (fail)
    have l0 := Later.cell d0
    have l1 := Later.cell d1
    refine wp_region_later (by kernel_rfl) (by kernel_rfl) ?_
    repeat (go_big_quiet_step (fail))
    refine wpQuiet_nil ?_
    rintro _ ⟨y, rfl⟩
    have HY := Lib.hid y.below
    clear l0 l1
    go_wp2_with fail
    go_ret
    exact ⟨ret_bool HR.out.symm, HY.out⟩
end Go.Proofs.Ytoiejgmfgcdniaa
namespace Go.Proofs.Ytoiejgmfgcdniaa
open Go.RowKit Go.Proofs.YtoiejgmfgcdniaaW.PrintWords

/-! ### node -/
theorem info57 : (Try.prog.info? 57).map (fun i => (i.zero, i.size, i.bytes)) = some (some (.agg #[.int .i64 0, .string ⟨#[]⟩, .slice none 0 0]), 3, 48) := by kernel_rfl
theorem info59 : (Try.prog.info? 59).map (fun i => (i.zero, i.size, i.bytes)) = some (some (.agg #[.string ⟨#[]⟩, .int .i64 0]), 2, 24) := by kernel_rfl
theorem info187 : (Try.prog.info? 187).map (fun i => (i.zero, i.size, i.bytes)) = some (some (.agg #[.string ⟨#[]⟩, .int .i64 0]), 2, 24) := by kernel_rfl
theorem rNode_M {w : World} {base : Nat} {ok : Nat → Prop} (x : Node) {v : Value} (h : (Kd.int .i64).R 3 w base ok v x.kids) : kNode.M w base ok x [.int .i64 x.kind, .string x.name, v] := ⟨[.int .i64 x.kind], [.string x.name, v], rfl, rfl, ⟨[.string x.name], [v], rfl, rfl, v, rfl, h⟩⟩
def RNodePost (B : Nat) (ok : Nat → Prop) (tv : Value) (en : Int) (w : World) (m : RdM) (s : RdS) (x : Node) (e : Ending) (w' : World) : Prop :=
  e = .returned (.int .i64 s.nodes.length) ∧ ∃ nv, RSt B ok tv en w' { m with nv := nv } { s with nodes := s.nodes ++ [x] } ∧ Fo ok B m.g w w'
set_option maxRecDepth 100000 in
set_option maxHeartbeats 1000000 in
theorem rnode_any (B : Nat) (ok okk : Nat → Prop) (tv : Value) (en : Int) (w : World) (m : RdM) (s : RdS) (x : Node) (kv : Value) (h : RSt B ok tv en w m s) (hk : (Kd.int .i64).R 3 w B okk kv x.kids) (hok : ∀ k, okk k → ok k) (hfresh : ∀ k, w.heap.size ≤ k → ok k) (hB : B ≤ w.heap.size) (hn : s.nodes.length ≤ 1000000) :
    Calls Try.prog 201 #[.pointer (some ⟨m.g, 0, none⟩), .int .i64 x.kind, .string x.name, kv] w (RNodePost B ok tv en w m s x) := by
  have H := Lib.hid h
  have HOK := Lib.hid hok
  have HFR := Lib.hid hfresh
  obtain ⟨_, _, _, _, d4, _⟩ := h.cs
  have hgl := blk_lt h.cells
  have hgf : w.frozen? ⟨m.g, 4, none⟩ = false := blk_frozen h.cells 4
  have HK := Lib.hid (R_ne hk h.nodes (by decide))
  obtain ⟨Ak, ck, hks⟩ := Kd.R_slice hk
  obtain ⟨An, cn, hns⟩ := Kd.R_slice h.nodes
  clear h hk hok hfresh
  obtain ⟨g, rv, nv, gv, uv⟩ := m
  simp only at d4 hgl hgf hns
  subst hks hns
  obtain ⟨pos, rs, ns, gs, us⟩ := s
  simp only at d4 hn
  simp only [RNodePost]
  go_enter Try.func201, Try.ntmps201
  go_wp2_with (at_builtin; refine Kd.R_append kNode (w0 := w) B rfl (.tmp 14) (.tmp 19) 23 57 _ 48 rfl Try.underlying23 info57 rfl (by decide) (by omega) _ ns x [.int .i64 x.kind, .string x.name, .slice Ak x.kids.length ck] ok (fun k => okk k ∧ some k ≠ (Value.slice An ns.length cn).ownBlock) rfl rfl (rNode_M _ HK.out) (fun k hk => ⟨HOK.out k hk.1, hk.2⟩) HFR.out H.out.nodes (Below.refl _ _) hB (by omega) ?_; intro v1 w1 ho hb1 hg _; have HO := Lib.hid ho; have HG := Lib.hid (Fr.grown (B := B) (Ms := []) (T := [57]) H.out.nodes (by simp) (Nat.le_refl _) hg); have HGO := Lib.hid (Fo.grown (ok := ok) (B := B) (g := g) H.out.nodes (by decide) (Nat.le_refl _) (fun _ h => h) hg); have hcell := HG.out.blk H.out.cells (by decide) (by simp); clear ho hg hb1; have HC := Lib.hid hcell; obtain ⟨av, cv, hsv⟩ := Kd.R_slice HO.out; rw [List.length_append, List.length_singleton] at hsv; subst hsv; have d4' : w1.cell? ⟨g, 4, none⟩ = some (.slice An ns.length cn) := (blk_cell hcell 4).trans rfl; have f4' : w1.frozen? ⟨g, 4, none⟩ = false := blk_frozen hcell 4; have hgl' := blk_lt hcell; clear hcell d4 hgf hgl)
  go_ret
  have hF : Fo ok B g w (w1.setCell ⟨g, 4, none⟩ (.slice av (ns.length + 1) cv)) := HGO.out.trans (Fo.set HC.out H.out.g0)
  have hF2 : Fr B [] [114, 57] w (w1.setCell ⟨g, 4, none⟩ (.slice av (ns.length + 1) cv)) := (HG.out.mono (fun _ h => h) (by decide) (Nat.le_refl _)).trans (Fr.set HC.out (by decide) H.out.g0)
  exact ⟨ret_int (by simp), _, ⟨(blk_set HC.out 4 _).trans rfl, hF2.R H.out.rules (by decide) (by simp), Kd.R_set HO.out HC.out (by decide) 4 _, hF2.R H.out.given (by decide) (by simp), hF2.R H.out.used (by decide) (by simp), H.out.g0⟩, hF⟩
end Go.Proofs.Ytoiejgmfgcdniaa
