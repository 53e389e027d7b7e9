import Derived.Test.YtoiejgmfgcdniaaRead1
import Derived.Test.YtoiejgmfgcdniaaTail
set_option linter.unusedVariables false
set_option linter.unusedSimpArgs false
namespace Go.Proofs.Ytoiejgmfgcdniaa
open Go.RowKit Go.Proofs.YtoiejgmfgcdniaaW.PrintWords

/-! ### take, fail, must -/
def takeS (toks : List Tok) (s : RdS) (mark : ByteArray) : RdS := if isMark toks s.pos mark then { s with pos := s.pos + 1 } else s
def TakePost (B : Nat) (ok : Nat → Prop) (tv : Value) (toks : List Tok) (en : Int) (w : World) (m : RdM) (s : RdS) (mark : ByteArray) (e : Ending) (w' : World) : Prop :=
  e = .returned (.bool (isMark toks s.pos mark)) ∧ RSt B ok tv en w' m (takeS toks s mark) ∧ Fo ok B m.g w w'
theorem isMark_lt {toks : List Tok} {p : Nat} {mark : ByteArray} (h : isMark toks p mark = true) : p < toks.length := by
  unfold isMark at h
  cases hx : toks[p]? with
  | none => rw [hx] at h; cases h
  | some t => exact (List.getElem?_eq_some_iff.1 hx).1
set_option maxRecDepth 100000 in
set_option maxHeartbeats 1000000 in
theorem take_any (B : Nat) (ok : Nat → Prop) (A : Option Addr) (c : Nat) (toks : List Tok) (en : Int) (w : World) (m : RdM) (s : RdS) (mark : ByteArray) (h : RSt B ok (.slice A toks.length c) en w m s) (hr : Kd.C kTok w A toks.length toks) :
    Calls Try.prog 181 #[.pointer (some ⟨m.g, 0, none⟩), .string mark] w (TakePost B ok (.slice A toks.length c) toks en w m s mark) := by
  have H := Lib.hid h
  have HR := Lib.hid hr
  have hmx := Kd.C_max hr
  clear h hr
  cases hm : isMark toks s.pos mark
  · have HM := Lib.hid hm
    have HT : Hid (takeS toks s mark = s) := Lib.hid (by unfold takeS; rw [if_neg (by simp [hm])])
    clear hm
    go_enter Try.func181, Try.ntmps181
    go_wp2_with fail
    refine (ahead_any B ok A c toks en w m s mark H.out HR.out).mono ?_
    rintro e w1 ⟨rfl, hb⟩
    rw [HM.out]
    have HB := Lib.hid hb
    clear hb
    go_wp2_with fail
    go_ret
    exact ⟨ret_bool HM.out.symm, by rw [HT.out]; exact H.out.below HB.out, Fo.of_below HB.out⟩
  · have HM := Lib.hid hm
    have HT : Hid (takeS toks s mark = { s with pos := s.pos + 1 }) := Lib.hid (by unfold takeS; rw [if_pos hm])
    have hlt := isMark_lt hm
    clear hm
    go_enter Try.func181, Try.ntmps181
    go_wp2_with fail
    refine (ahead_any B ok A c toks en w m s mark H.out HR.out).mono ?_
    rintro e w1 ⟨rfl, hb⟩
    rw [HM.out]
    have HB := Lib.hid hb
    have H1 := Lib.hid (H.out.below hb)
    obtain ⟨d0, d1, _⟩ := H1.out.cs
    have hgl := blk_lt H1.out.cells
    have hgf := blk_frozen H1.out.cells 1
    clear hb
    go_wp2_with fail
    go_ret
    have hmv := H1.out.move (s.pos + 1)
    rw [show ((s.pos + 1 : Nat) : Int) = (s.pos : Int) + 1 by omega] at hmv
    exact ⟨ret_bool HM.out.symm, by rw [HT.out]; exact hmv.1, (Fo.of_below HB.out).trans hmv.2⟩
def failP (toks : List Tok) (en : Int) (p : Nat) : Int := match toks[p]? with | some t => t.pos | none => en
def Wrong (p : Int) (e : Ending) : Prop := e = .panicked [{ v := .iface 184 (.int .i64 p), recovered := false }]
set_option maxRecDepth 100000 in
set_option maxHeartbeats 1000000 in
theorem fail_any (B : Nat) (ok : Nat → Prop) (A : Option Addr) (c : Nat) (toks : List Tok) (en : Int) (w : World) (m : RdM) (s : RdS) (h : RSt B ok (.slice A toks.length c) en w m s) (hr : Kd.C kTok w A toks.length toks) :
    Calls Try.prog 180 #[.pointer (some ⟨m.g, 0, none⟩)] w fun e w' => Wrong (failP toks en s.pos) e ∧ Below w.heap.size w w' := by
  obtain ⟨d0, d1, d2, _⟩ := h.cs
  have hgl := blk_lt h.cells
  have hmx := Kd.C_max hr
  have HB := Lib.hid (fun nq => pw_below_drewN (Below.refl w.heap.size w) nq)
  obtain ⟨g, rv, nv, gv, uv⟩ := m
  simp only at d0 d1 d2 hgl
  obtain ⟨p, rs, ns, gs, us⟩ := s
  simp only at d1 ⊢
  by_cases hlt : p < toks.length
  · obtain ⟨ad, x, rfl, hx, e0, e1, e2⟩ := at_Tok hr p hlt
    have HQ : Hid (failP toks en p = x.pos) := Lib.hid (by unfold failP; rw [hx])
    clear h hr hx
    rw [HQ.out]
    go_enter Try.func180, Try.ntmps180
    go_upto_region 0 with (fail)
    go_quiet (fail)
    go_upto_region 1 with (fail)
    have l0 := Later.cell (pw_cell_below (HB.out nq) d0)
    have l1 := Later.cell (pw_cell_below (HB.out nq) d1)
    have l2 := Later.cell (pw_cell_below (HB.out nq) e2)
    refine wp_region_later_tail 12 (by kernel_rfl) (by kernel_rfl) ?_
    simp only [List.take_succ_cons, List.take_zero, List.drop_succ_cons, List.drop_zero]
    repeat (go_big_quiet_step (fail))
    refine wpQuiet_nil ?_
    intro y
    have HY := Lib.hid (blw (HB.out nq) y.below)
    clear l0 l1 l2
    go_wp2_with fail
    exact ⟨rfl, rfl, HY.out⟩
  · have HQ : Hid (failP toks en p = en) := Lib.hid (by unfold failP; rw [List.getElem?_eq_none (by omega)])
    clear h hr
    rw [HQ.out]
    go_enter Try.func180, Try.ntmps180
    go_upto_region 0 with (fail)
    go_quiet (fail)
    go_wp2_with fail
    exact ⟨rfl, rfl, HB.out _⟩
def MustPost (B : Nat) (ok : Nat → Prop) (tv : Value) (toks : List Tok) (en : Int) (w : World) (m : RdM) (s : RdS) (mark : ByteArray) (e : Ending) (w' : World) : Prop :=
  if isMark toks s.pos mark then e = .returned (.tuple #[]) ∧ RSt B ok tv en w' m { s with pos := s.pos + 1 } ∧ Fo ok B m.g w w' else Wrong (failP toks en s.pos) e ∧ Fo ok B m.g w w'
set_option maxRecDepth 100000 in
set_option maxHeartbeats 1000000 in
theorem must_any (w0 : World) (ok : Nat → Prop) (A : Option Addr) (c : Nat) (toks : List Tok) (en : Int) (w : World) (m : RdM) (s : RdS) (mark : ByteArray) (ht : Kd.C kTok w0 A toks.length toks) (hw : Below w0.heap.size w0 w) (h : RSt w0.heap.size ok (.slice A toks.length c) en w m s) :
    Calls Try.prog 155 #[.pointer (some ⟨m.g, 0, none⟩), .string mark] w (MustPost w0.heap.size ok (.slice A toks.length c) toks en w m s mark) := by
  have H := Lib.hid h
  have HW := Lib.hid hw
  have HR := Lib.hid (Kd.C_below ht hw)
  have HK := Lib.hid ht
  clear h ht hw
  cases hm : isMark toks s.pos mark
  · have HM := Lib.hid hm
    have HT : Hid (takeS toks s mark = s) := Lib.hid (by unfold takeS; rw [if_neg (by simp [hm])])
    have HP : Hid (∀ e w', MustPost w0.heap.size ok (.slice A toks.length c) toks en w m s mark e w' = (Wrong (failP toks en s.pos) e ∧ Fo ok w0.heap.size m.g w w')) := Lib.hid (fun e w' => by unfold MustPost; rw [if_neg (by simp [hm])])
    clear hm
    go_enter Try.func155, Try.ntmps155
    go_wp2_with fail
    refine (take_any w0.heap.size ok A c toks en w m s mark H.out HR.out).mono ?_
    rintro e w1 ⟨rfl, hS, hF⟩
    rw [HM.out]
    rw [HT.out] at hS
    have H1 := Lib.hid hS
    have HF := Lib.hid hF
    clear hS hF
    go_wp2_with fail
    refine (fail_any w0.heap.size ok A c toks en w1 m s H1.out (Kd.C_below HK.out (HW.out.trans (HF.out.toBelow HW.out.size)))).mono ?_
    rintro e w2 ⟨he, hb2⟩
    unfold Wrong at he
    subst he
    have HF2 := Lib.hid (HF.out.trans (Fo.of_below hb2))
    clear hb2
    go_wp2_with fail
    refine ⟨rfl, ?_⟩
    rw [HP.out]
    exact ⟨rfl, HF2.out⟩
  · have HM := Lib.hid hm
    have HT : Hid (takeS toks s mark = { s with pos := s.pos + 1 }) := Lib.hid (by unfold takeS; rw [if_pos hm])
    have HP : Hid (∀ e w', MustPost w0.heap.size ok (.slice A toks.length c) toks en w m s mark e w' = (e = .returned (.tuple #[]) ∧ RSt w0.heap.size ok (.slice A toks.length c) en w' m { s with pos := s.pos + 1 } ∧ Fo ok w0.heap.size m.g w w')) := Lib.hid (fun e w' => by unfold MustPost; rw [if_pos hm])
    clear hm
    go_enter Try.func155, Try.ntmps155
    go_wp2_with fail
    refine (take_any w0.heap.size ok A c toks en w m s mark H.out HR.out).mono ?_
    rintro e w1 ⟨rfl, hS, hF⟩
    rw [HM.out]
    rw [HT.out] at hS
    have H1 := Lib.hid hS
    have HF := Lib.hid hF
    clear hS hF
    go_wp2_with fail
    go_end0
    rw [HP.out]
    exact ⟨rfl, H1.out, HF.out⟩
end Go.Proofs.Ytoiejgmfgcdniaa
