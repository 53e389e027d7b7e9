import Derived.Test.YtoiejgmfgcdniaaRead2
set_option linter.unusedVariables false
set_option linter.unusedSimpArgs false
namespace Go.Proofs.Ytoiejgmfgcdniaa
open Go.RowKit Go.Proofs.YtoiejgmfgcdniaaW.PrintWords

/-! ### begins -/
def beginsB (toks : List Tok) (p : Nat) : Bool := match toks[p]? with | some t => decide (t.kind ≠ 3) || isMark toks p ⟨#[40]⟩ | none => false
set_option maxRecDepth 100000 in
set_option maxHeartbeats 1000000 in
theorem begins_any (B : Nat) (ok : Nat → Prop) (A : Option Addr) (c : Nat) (toks : List Tok) (en : Int) (w : World) (m : RdM) (s : RdS) (h : RSt B ok (.slice A toks.length c) en w m s) (hr : Kd.C kTok w A toks.length toks) :
    Calls Try.prog 182 #[.pointer (some ⟨m.g, 0, none⟩)] w fun e w' => e = .returned (.bool (beginsB toks s.pos)) ∧ Below w.heap.size w w' := by
  obtain ⟨d0, d1, _⟩ := h.cs
  have hgl := blk_lt h.cells
  have hmx := Kd.C_max hr
  have HB := Lib.hid (fun nq => pw_below_drewN (Below.refl w.heap.size w) nq)
  have HA := Lib.hid (fun y : Later w => ahead_any B ok A c toks en y.val m s ⟨#[40]⟩ (h.below y.below) (Kd.C_below hr y.below))
  have hq : Hid (beginsB toks s.pos = match toks[s.pos]? with | some t => decide (t.kind ≠ 3) || isMark toks s.pos ⟨#[40]⟩ | none => false) := Lib.hid rfl
  generalize beginsB toks s.pos = res at hq ⊢
  generalize isMark toks s.pos ⟨#[40]⟩ = mk at hq HA
  obtain ⟨g, rv, nv, gv, uv⟩ := m
  simp only at d0 d1 hgl HA
  obtain ⟨p, rs, ns, gs, us⟩ := s
  simp only at d1 hq
  by_cases hlt : p < toks.length
  · obtain ⟨ad, x, rfl, hx, e0, e1, e2⟩ := at_Tok hr p hlt
    have HQ : Hid (res = (decide (x.kind ≠ 3) || mk)) := Lib.hid (by rw [hq.out, hx])
    clear h hr hx hq
    by_cases hk : x.kind = 3
    · have b3 : (x.kind != 3) = false := by simp [hk]
      have HR : Hid (res = mk) := Lib.hid (by rw [HQ.out]; simp [hk])
      clear hk HQ
      go_enter Try.func182, Try.ntmps182
      go_upto_region 1 with (fail)
      have l0 := Later.cell d0
      have l1 := Later.cell d1
      have l2 := Later.cell e0
      refine wp_region_later (by kernel_rfl) (by kernel_rfl) ?_
      repeat (go_big_quiet_step ((go_at_call 199; exact Later.call _ (HA.out _))))
      refine wpQuiet_nil ?_
      rintro _ ⟨y, rfl⟩
      have HY := Lib.hid y.below
      clear l0 l1 l2
      go_wp2_with fail
      go_ret
      exact ⟨ret_bool HR.out.symm, HY.out⟩
    · have b3 : (x.kind != 3) = true := bne_iff_ne.2 hk
      have HR : Hid (res = true) := Lib.hid (by rw [HQ.out]; simp [hk])
      clear hk HQ
      go_enter Try.func182, Try.ntmps182
      go_upto_region 1 with (fail)
      have l0 := Later.cell d0
      have l1 := Later.cell d1
      have l2 := Later.cell e0
      refine wp_region_later (by kernel_rfl) (by kernel_rfl) ?_
      repeat (go_big_quiet_step (fail))
      refine wpQuiet_nil ?_
      rintro _ ⟨y, rfl⟩
      have HY := Lib.hid y.below
      clear l0 l1 l2
      go_wp2_with fail
      go_ret
      exact ⟨ret_bool HR.out.symm, HY.out⟩
  · have HR : Hid (res = false) := Lib.hid (by rw [hq.out, List.getElem?_eq_none (by omega)])
    clear h hr hq
    go_enter Try.func182, Try.ntmps182
    go_upto_region 1 with (fail)
    have l0 := Later.cell d0
    have l1 := Later.cell d1
    refine wp_region_later (by kernel_rfl) (by kernel_rfl) ?_
    repeat (go_big_quiet_step (fail))
    refine wpQuiet_nil ?_
    rintro _ ⟨y, rfl⟩
    have HY := Lib.hid y.below
    clear l0 l1
    go_wp2_with fail
    go_ret
    exact ⟨ret_bool HR.out.symm, HY.out⟩
end Go.Proofs.Ytoiejgmfgcdniaa
