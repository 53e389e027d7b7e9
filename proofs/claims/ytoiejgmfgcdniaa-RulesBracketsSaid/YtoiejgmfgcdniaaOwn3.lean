import Derived.Test.YtoiejgmfgcdniaaOwn2
set_option linter.unusedVariables false
set_option linter.unusedSimpArgs false
namespace Go.Proofs.Ytoiejgmfgcdniaa
open Go.RowKit Go.Proofs.YtoiejgmfgcdniaaW.PrintWords

set_option maxRecDepth 100000 in
theorem neq_rule' (x y : Rule) (w : World) : (binOp .neq 109 (.agg #[.string x.name, .int .i64 x.body]) (.agg #[.string y.name, .int .i64 y.body])).run Try.prog w = .ok (.bool (decide (x ≠ y))) w := by
  rw [run_neq_struct, run_equalIn_agg w _ _ _ _ (by kernel_rfl) Try.stoodInHeld109]
  simp [go_sem]
  obtain ⟨a, n⟩ := x
  obtain ⟨b, m⟩ := y
  simp only [toList_iff, Rule.mk.injEq]
  by_cases h1 : a = b <;> by_cases h2 : n = m <;> simp [h1, h2]
set_option maxRecDepth 100000 in
set_option maxHeartbeats 4000000 in
theorem rsame_any (a b : Tree) (A0 A1 B0 B1 : Option Addr) (c0 c1 d0 d1 : Nat) (w : World) (ha0 : Kd.C kRule w A0 a.rules.length a.rules) (ha1 : Kd.C kNode w A1 a.nodes.length a.nodes) (hb0 : Kd.C kRule w B0 b.rules.length b.rules) (hb1 : Kd.C kNode w B1 b.nodes.length b.nodes) :
    Calls Try.prog 22 #[.agg #[.slice A0 a.rules.length c0, .slice A1 a.nodes.length c1], .agg #[.slice B0 b.rules.length d0, .slice B1 b.nodes.length d1]] w fun e w' => e = .returned (.bool (a.same b)) ∧ Below w.heap.size w w' := by
  have hB := below_alloc (below_alloc (Below.refl w.heap.size w) (.cells #[.slice A0 a.rules.length c0, .slice A1 a.nodes.length c1] 48)) (.cells #[.slice B0 b.rules.length d0, .slice B1 b.nodes.length d1] 48)
  have hg0 := blk_alloc (blk_new w (.cells #[.slice A0 a.rules.length c0, .slice A1 a.nodes.length c1] 48)) (.cells #[.slice B0 b.rules.length d0, .slice B1 b.nodes.length d1] 48)
  have hg1 := blk_new (w.alloc (.cells #[.slice A0 a.rules.length c0, .slice A1 a.nodes.length c1] 48)) (.cells #[.slice B0 b.rules.length d0, .slice B1 b.nodes.length d1] 48)
  rw [size_alloc] at hg1
  have HB := Lib.hid hB
  have HA0 := Lib.hid ha0
  have HA1 := Lib.hid ha1
  have HB0 := Lib.hid hb0
  have HB1 := Lib.hid hb1
  have HG0 := Lib.hid hg0
  have HG1 := Lib.hid hg1
  have hm0 := Kd.C_max ha0
  have hm1 := Kd.C_max ha1
  have hn0 := Kd.C_max hb0
  have hn1 := Kd.C_max hb1
  clear hB ha0 ha1 hb0 hb1 hg0 hg1
  have HQ : Hid (a.same b = (decide (a.rules = b.rules) && decide (a.nodes = b.nodes))) := Lib.hid rfl
  generalize a.same b = res at HQ ⊢
  obtain ⟨ar, an⟩ := a
  obtain ⟨br, bn⟩ := b
  simp only at HA0 HA1 HB0 HB1 HQ hm0 hm1 hn0 hn1 ⊢
  by_cases hl : ar.length = br.length
  · have b0 : ((ar.length : Int) != (br.length : Int)) = false := by rw [hl]; simp
    have HL := Lib.hid hl
    have hl1 : ar.length ≤ br.length := by omega
    clear hl
    by_cases hl : an.length = bn.length
    · have b1 : ((an.length : Int) != (bn.length : Int)) = false := by rw [hl]; simp
      have HLN := Lib.hid hl
      have hl2 : an.length ≤ bn.length := by omega
      clear hl
      go_enter Try.func22, Try.ntmps22
      go_upto_region 1 with (fail)
      generalize (w.alloc (.cells #[.slice A0 ar.length c0, .slice A1 an.length c1] 48)).alloc (.cells #[.slice B0 br.length d0, .slice B1 bn.length d1] 48) = V at *
      obtain ⟨x0, x1⟩ := cells2 HG0.out
      obtain ⟨y0, y1⟩ := cells2 HG1.out
      go_wp2_with fail
      clear x0 x1 y0 y1
      go_loopw [5] (fun i wr => ∃ k : Nat, k ≤ ar.length ∧ i = .int .i64 k ∧ Hid (ar.take k = br.take k) ∧ Hid (Below V.heap.size V wr)) (fun i _ => ar.length - (intOf i).toNat)
      case atStart => exact ⟨0, Nat.zero_le _, rfl, Lib.hid rfl, Lib.hid (Below.refl _ _)⟩
      case round =>
        obtain ⟨k, hk, rfl, HT, HV⟩ := hrel
        obtain ⟨x0, x1⟩ := cells2 (blk_below HG0.out HV.out)
        obtain ⟨y0, y1⟩ := cells2 (blk_below HG1.out HV.out)
        by_cases hlt : k < ar.length
        · obtain ⟨ad, x, hA, hx, u0, u1⟩ := at_Rule (Kd.C_below (Kd.C_below HA0.out HB.out) HV.out) k hlt
          obtain ⟨bd, y, hBq, hy, v0, v1⟩ := at_Rule (Kd.C_below (Kd.C_below HB0.out HB.out) HV.out) k (by omega)
          have HX := Lib.hid hx
          have HY := Lib.hid hy
          have hq := neq_rule' x y
          have i1 : (k : Int) < (br.length : Int) := by omega
          subst hA hBq
          clear hx hy
          by_cases hp : x = y
          · have hE : Hid (ar.take (k + 1) = br.take (k + 1)) := Lib.hid (by rw [take_of HX.out, take_of HY.out, HT.out, hp])
            rw [decide_eq_false (by simpa using hp)] at hq
            clear hp
            go_wp2_with fail
            go_quiet (fail)
            have HV2 := Lib.hid (blw HV.out (pw_below_drewN (Below.refl wr.heap.size wr) nq))
            go_wp2_with fail
            go_roundw
            case rel => exact ⟨k + 1, by omega, by go_num, hE, HV2⟩
            case measure => simp [intOf]; omega
          · have HE : Hid (res = false) := Lib.hid (by rw [HQ.out, decide_eq_false (take_ne HX.out HY.out hp)]; rfl)
            rw [decide_eq_true hp] at hq
            clear hp
            go_wp2_with fail
            go_quiet (fail)
            have HV2 := Lib.hid (blw HB.out (blw HV.out (pw_below_drewN (Below.refl wr.heap.size wr) nq)))
            go_wp2_with fail
            go_ret
            exact ⟨ret_bool HE.out.symm, HV2.out⟩
        · have HE : Hid (res = decide (an = bn)) := Lib.hid (by
            have h := HT.out
            have hl := HL.out
            rw [List.take_of_length_le (by omega), List.take_of_length_le (by omega)] at h
            rw [HQ.out, decide_eq_true h, Bool.true_and])
          clear HQ HT
          obtain ⟨wo, rfl⟩ : ∃ wo : World, wo = wr := ⟨_, rfl⟩
          go_wp2_with fail
          clear x0 x1 y0 y1
          go_loopw [6] (fun i wr => ∃ k : Nat, k ≤ an.length ∧ i = .int .i64 k ∧ Hid (an.take k = bn.take k) ∧ Hid (Below V.heap.size V wr)) (fun i _ => an.length - (intOf i).toNat)
          case atStart => exact ⟨0, Nat.zero_le _, rfl, Lib.hid rfl, HV⟩
          case round =>
            clear HV
            obtain ⟨k, hk, rfl, HT, HV⟩ := hrel
            obtain ⟨x0, x1⟩ := cells2 (blk_below HG0.out HV.out)
            obtain ⟨y0, y1⟩ := cells2 (blk_below HG1.out HV.out)
            by_cases hlt : k < an.length
            · obtain ⟨ad, x, A2, c2, hA, hx, e0, e1, e2, l2, k2⟩ := at_Node (Kd.C_below (Kd.C_below HA1.out HB.out) HV.out) k hlt
              obtain ⟨bd, y, B2, d2, hBq, hy, f0, f1, f2, m2, q2⟩ := at_Node (Kd.C_below (Kd.C_below HB1.out HB.out) HV.out) k (by omega)
              have HX := Lib.hid hx
              have HY := Lib.hid hy
              have i1 : (k : Int) < (bn.length : Int) := by omega
              have HSI := Lib.hid (fun z : Later wr => same_int A2 B2 c2 d2 x.kids y.kids z.val (Kd.C_below k2 z.below) (Kd.C_below q2 z.below))
              subst hA hBq
              clear hx hy k2 q2
              have NE : x ≠ y → Hid (res = false) := fun hp => Lib.hid (by rw [HE.out, decide_eq_false (take_ne HX.out HY.out hp)])
              have YE : x = y → Hid (an.take (k + 1) = bn.take (k + 1)) := fun hp => Lib.hid (by rw [take_of HX.out, take_of HY.out, HT.out, hp])
              by_cases h1 : x.kind = y.kind
              · have b1' : (x.kind != y.kind) = false := by simpa using h1
                cases h2 : (x.name.toList == y.name.toList)
                · have hF := NE (fun e => by rw [e, str_eq, decide_eq_true rfl] at h2; cases h2)
                  clear HE HT NE YE h1
                  go_upto_region 11 with (fail)
                  go_quiet (fail)
                  have HV2 := Lib.hid (blw HB.out (blw HV.out (pw_below_drewN (Below.refl wr.heap.size wr) nq)))
                  go_wp2_with fail
                  go_ret
                  exact ⟨ret_bool hF.out.symm, HV2.out⟩
                · have hnm : x.name = y.name := by rw [str_eq] at h2; exact of_decide_eq_true h2
                  by_cases h3 : x.kids = y.kids
                  · have hE := YE (by obtain ⟨p, q, r⟩ := x; obtain ⟨p', q', r'⟩ := y; simp only at h1 hnm h3; rw [h1, hnm, h3])
                    rw [decide_eq_true h3] at HSI
                    clear HE HT NE YE h1 hnm h3
                    go_upto_region 11 with (fail)
                    have l0 := Later.cell x0
                    have l1 := Later.cell x1
                    have l2' := Later.cell y0
                    have l3 := Later.cell y1
                    have l4 := Later.cell e0
                    have l5 := Later.cell e1
                    have l6 := Later.cell e2
                    have l7 := Later.cell f0
                    have l8 := Later.cell f1
                    have l9 := Later.cell f2
                    refine wp_region_later (by kernel_rfl) (by kernel_rfl) ?_
                    repeat (go_big_quiet_step ((go_at_call 63; exact Later.call _ (HSI.out _))))
                    refine wpQuiet_nil ?_
                    rintro _ ⟨z, rfl⟩
                    have HV2 := Lib.hid (blw HV.out z.below)
                    clear l0 l1 l2' l3 l4 l5 l6 l7 l8 l9
                    go_wp2_with fail
                    go_roundw
                    case rel => exact ⟨k + 1, by omega, by go_num, hE, HV2⟩
                    case measure => simp [intOf]; omega
                  · have hF := NE (fun e => h3 (by rw [e]))
                    rw [decide_eq_false h3] at HSI
                    clear HE HT NE YE h1 hnm h3
                    go_upto_region 11 with (fail)
                    have l0 := Later.cell x0
                    have l1 := Later.cell x1
                    have l2' := Later.cell y0
                    have l3 := Later.cell y1
                    have l4 := Later.cell e0
                    have l5 := Later.cell e1
                    have l6 := Later.cell e2
                    have l7 := Later.cell f0
                    have l8 := Later.cell f1
                    have l9 := Later.cell f2
                    refine wp_region_later (by kernel_rfl) (by kernel_rfl) ?_
                    repeat (go_big_quiet_step ((go_at_call 63; exact Later.call _ (HSI.out _))))
                    refine wpQuiet_nil ?_
                    rintro _ ⟨z, rfl⟩
                    have HV2 := Lib.hid (blw HB.out (blw HV.out z.below))
                    clear l0 l1 l2' l3 l4 l5 l6 l7 l8 l9
                    go_wp2_with fail
                    go_ret
                    exact ⟨ret_bool hF.out.symm, HV2.out⟩
              · have b1' : (x.kind != y.kind) = true := by simpa using h1
                have hF := NE (fun e => h1 (by rw [e]))
                clear HE HT NE YE h1
                go_upto_region 11 with (fail)
                go_quiet (fail)
                have HV2 := Lib.hid (blw HB.out (blw HV.out (pw_below_drewN (Below.refl wr.heap.size wr) nq)))
                go_wp2_with fail
                go_ret
                exact ⟨ret_bool hF.out.symm, HV2.out⟩
            · have HR : Hid (res = true) := Lib.hid (by
                have h := HT.out
                have hl := HLN.out
                rw [List.take_of_length_le (by omega), List.take_of_length_le (by omega)] at h
                rw [HE.out, decide_eq_true h])
              clear HE HT
              go_wp2_with fail
              go_ret
              exact ⟨ret_bool HR.out.symm, blw HB.out HV.out⟩
    · have b1 : ((an.length : Int) != (bn.length : Int)) = true := by rw [bne_iff_ne]; omega
      have HE : Hid (res = false) := Lib.hid (by rw [HQ.out, decide_eq_false (p := an = bn) (fun h => hl (by rw [h])), Bool.and_false])
      clear hl
      go_enter Try.func22, Try.ntmps22
      go_wp2_with fail
      go_ret
      exact ⟨ret_bool HE.out.symm, HB.out⟩
  · have b1 : ((ar.length : Int) != (br.length : Int)) = true := by rw [bne_iff_ne]; omega
    have HE : Hid (res = false) := Lib.hid (by rw [HQ.out, decide_eq_false (p := ar = br) (fun h => hl (by rw [h])), Bool.false_and])
    clear hl
    go_enter Try.func22, Try.ntmps22
    go_wp2_with fail
    go_ret
    exact ⟨ret_bool HE.out.symm, HB.out⟩
end Go.Proofs.Ytoiejgmfgcdniaa
