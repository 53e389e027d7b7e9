import Derived.Test.YtoiejgmfgcdniaaXSk1
set_option linter.unusedVariables false
set_option linter.unusedSimpArgs false
namespace Go.Proofs.Ytoiejgmfgcdniaa
open Go.RowKit Go.Proofs.YtoiejgmfgcdniaaW.PrintWords

/-! ### ShowOne -/
theorem readP_row {l : List UInt8} {w : World} {A0 : Option Addr} {c0 : Nat} {A1 : Option Addr} {c1 : Nat} (l0 : (readP l).1.rules.length ≤ c0) (r0 : Kd.C kRule w A0 (readP l).1.rules.length (readP l).1.rules) (l1 : (readP l).1.nodes.length ≤ c1) (r1 : Kd.C kNode w A1 (readP l).1.nodes.length (readP l).1.nodes) : TreeRow w (readP l).1 A0 c0 A1 c1 := by
  by_cases he : (readP l).2.2 = 0
  · have hr := readP_right he
    refine ⟨r0, l0, r1, l1, fun r h => ?_, right_size hr⟩
    have := ((right_parts hr).names r h).2
    omega
  · have hn := (readP_place l he).2.2
    refine ⟨r0, l0, r1, l1, fun r h => ?_, fun n h => ?_⟩
    · rw [hn] at h; simp [noTree] at h
    · rw [hn] at h; simp [noTree] at h
structure BoxT (w : World) (t : Tree) (p : Nat) (A0 : Option Addr) (c0 : Nat) (A1 : Option Addr) (c1 : Nat) : Prop where
  b : w.heap[p]? = some (.cells #[.slice A0 t.rules.length c0, .slice A1 t.nodes.length c1] 25 (0, 0))
  row : TreeRow w t A0 c0 A1 c1
theorem BoxT.below {w w1 : World} {t : Tree} {p : Nat} {A0 : Option Addr} {c0 : Nat} {A1 : Option Addr} {c1 : Nat} (h : BoxT w t p A0 c0 A1 c1) (hb : Below w.heap.size w w1) : BoxT w1 t p A0 c0 A1 c1 := ⟨blk_below h.b hb, h.row.below hb⟩
theorem BoxT.new {w : World} {t : Tree} {A0 : Option Addr} {c0 : Nat} {A1 : Option Addr} {c1 : Nat} (h : TreeRow w t A0 c0 A1 c1) : BoxT (w.alloc (.cells #[.slice A0 t.rules.length c0, .slice A1 t.nodes.length c1] 25)) t w.heap.size A0 c0 A1 c1 := ⟨blk_new w _, h.below (below_alloc (Below.refl _ _) _)⟩
set_option maxRecDepth 100000 in
set_option maxHeartbeats 4000000 in
theorem sone_any (s r : ByteArray) (w : World) : Calls Try.prog 9 #[.string s, .string r] w (TrueBelow w) := by
  go_enter Try.func9, Try.ntmps9
  go_wp2_with fail
  refine (awake7_any _).mono ?_
  rintro e w1 ⟨rfl, hb1⟩
  have HB1 := Lib.hid hb1
  clear hb1
  by_cases hs : 1000 < s.size
  · go_wp2_with fail
    go_ret
    exact ⟨rfl, HB1.out⟩
  by_cases hr : 1000 < r.size
  · go_wp2_with fail
    go_ret
    exact ⟨rfl, HB1.out⟩
  go_wp2_with fail
  refine (read_any s w1).mono ?_
  intro e w2 hp
  have HRT := Lib.hid (fun h => readP_right (l := s.data.toList) h)
  obtain ⟨A0, c0, A1, c1, rfl, l0, r0, l1, r1, hb2⟩ := hp
  have ht := readP_row l0 r0 l1 r1
  generalize readP s.data.toList = R at *
  obtain ⟨t, at1, er⟩ := R
  simp only at ht HRT
  have hx3 := BoxT.new ht
  have hb3 := below_alloc hb2 (.cells #[.slice A0 t.rules.length c0, .slice A1 t.nodes.length c1] 25)
  clear l0 r0 l1 r1 ht hb2
  go_upto_region 6 with (fail)
  generalize w2.alloc (.cells #[.slice A0 t.rules.length c0, .slice A1 t.nodes.length c1] 25) = w3 at *
  generalize w2.heap.size = p0 at *
  have HX3 := Lib.hid hx3
  have HB3 := Lib.hid (blw HB1.out hb3)
  clear hx3 hb3
  go_wp2_with fail
  refine (read_any r w3).mono ?_
  intro e w4 hp
  have HRU := Lib.hid (fun h => readP_right (l := r.data.toList) h)
  obtain ⟨B0, d0, B1, d1, rfl, l0, r0, l1, r1, hb4⟩ := hp
  have hu := readP_row l0 r0 l1 r1
  generalize readP r.data.toList = R at *
  obtain ⟨u, at2, er2⟩ := R
  simp only at hu HRU
  have hx5 := BoxT.new hu
  have hb45 := below_alloc (Below.refl w4.heap.size w4) (.cells #[.slice B0 u.rules.length d0, .slice B1 u.nodes.length d1] 25)
  have hb5 := blw hb4 hb45
  clear l0 r0 l1 r1 hu hb4 hb45
  go_upto_region 7 with (fail)
  generalize w4.alloc (.cells #[.slice B0 u.rules.length d0, .slice B1 u.nodes.length d1] 25) = w5 at *
  generalize w4.heap.size = p1 at *
  have HU5 := Lib.hid hx5
  have HT5 := Lib.hid (HX3.out.below hb5)
  have HB5 := Lib.hid (blw HB3.out hb5)
  clear hx5 hb5 HX3 HB3
  by_cases he : er = 0
  · subst he
    have hrt := HRT.out rfl
    have HR := Lib.hid hrt
    obtain ⟨x0, x1⟩ := cells2 HT5.out.b
    have l5 := blk_lt HT5.out.b
    clear HRT
    go_wp2_with fail
    refine (stext_any t A0 c0 A1 c1 w5 HT5.out.row).mono ?_
    rintro e w6 ⟨rfl, hb6⟩
    have HT6 := Lib.hid (HT5.out.below hb6)
    have HU6 := Lib.hid (HU5.out.below hb6)
    have HB6 := Lib.hid (blw HB5.out hb6)
    clear hb6 x0 x1 l5 HT5 HU5 HB5
    rcases showP_cases t with ⟨h1, hp⟩ | ⟨h1, hbig, hp⟩ | ⟨h1, hsm, hp⟩
    · rw [h1] at hrt; cases hrt
    · rw [hp]
      clear hp h1 hrt
      go_wp2_with fail
      go_ret
      exact ⟨rfl, HB6.out⟩
    · have HBK := Lib.hid (show_back h1 hsm)
      have HSM := Lib.hid hsm
      have HP := Lib.hid hp
      rw [hp]
      clear hp h1 hrt
      go_wp2_with fail
      refine (read_any ⟨(showL t).toArray⟩ w6).mono ?_
      intro e w7 hp7
      rw [show (⟨(showL t).toArray⟩ : ByteArray).data.toList = showL t from by simp, HBK.out] at hp7
      obtain ⟨D0, k0, D1, k1, he, m0, q0, m1, q1, hb7⟩ := hp7
      simp only at he m0 q0 m1 q1
      subst he
      have htk : TreeRow w7 t D0 k0 D1 k1 := ⟨q0, m0, q1, m1, HT6.out.row.s0, HT6.out.row.s1⟩
      have hx8 := BoxT.new htk
      have hb78 := below_alloc (Below.refl w7.heap.size w7) (.cells #[.slice D0 t.rules.length k0, .slice D1 t.nodes.length k1] 25)
      have hb8 := blw hb7 hb78
      clear q0 m0 q1 m1 htk hb7 hb78
      go_upto_region 13 with (fail)
      generalize w7.alloc (.cells #[.slice D0 t.rules.length k0, .slice D1 t.nodes.length k1] 25) = w8 at *
      generalize w7.heap.size = p2 at *
      have HK8 := Lib.hid hx8
      have HT8 := Lib.hid (HT6.out.below hb8)
      have HU8 := Lib.hid (HU6.out.below hb8)
      have HB8 := Lib.hid (blw HB6.out hb8)
      obtain ⟨x0, x1⟩ := cells2 hx8.b
      have l8 := blk_lt hx8.b
      clear hx8 hb8 HT6 HU6 HB6
      go_wp2_with fail
      refine (stext_any t D0 k0 D1 k1 w8 HK8.out.row).mono ?_
      rintro e w9 ⟨rfl, hb9⟩
      rw [HP.out]
      have HT9 := Lib.hid (HT8.out.below hb9)
      have HU9 := Lib.hid (HU8.out.below hb9)
      have HB9 := Lib.hid (blw HB8.out hb9)
      obtain ⟨y0, y1⟩ := cells2 HU9.out.b
      have l9 := blk_lt HU9.out.b
      clear hb9 x0 x1 l8 HK8 HT8 HU8 HB8
      go_wp2_with fail
      refine (stext_any u B0 d0 B1 d1 w9 HU9.out.row).mono ?_
      rintro e w10 ⟨rfl, hb10⟩
      have HT10 := Lib.hid (HT9.out.below hb10)
      have HU10 := Lib.hid (HU9.out.below hb10)
      have HB10 := Lib.hid (blw HB9.out hb10)
      obtain ⟨x0, x1⟩ := cells2 HT10.out.b
      obtain ⟨z0, z1⟩ := cells2 HU10.out.b
      have l10 := blk_lt HT10.out.b
      have l11 := blk_lt HU10.out.b
      clear hb10 y0 y1 l9 HT9 HU9 HB9
      by_cases he2 : er2 = 0
      · subst he2
        have hru := HRU.out rfl
        rcases showP_cases u with ⟨h2, hq⟩ | ⟨h2, hbig2, hq⟩ | ⟨h2, hsm2, hq⟩
        · rw [h2] at hru; cases hru
        · rw [hq]
          clear hq h2 hru
          go_wp2_with fail
          go_ret
          exact ⟨rfl, HB10.out⟩
        · have HINJ := Lib.hid (show_inj HR.out h2 HSM.out hsm2)
          rw [hq]
          clear hq h2 hru HBK HP
          generalize showL u = lu at *
          generalize showL t = lt at *
          by_cases he : lt = lu
          · have HE := Lib.hid (HINJ.out.1 he)
            have HBQ := Lib.hid (show (lt == lu) = true from beq_iff_eq.2 he)
            clear he HINJ
            go_wp2_with fail
            refine (same_any t u A0 A1 B0 B1 c0 c1 d0 d1 w10 HT10.out.row.r0 HT10.out.row.r1 HU10.out.row.r0 HU10.out.row.r1).mono ?_
            rintro e w11 ⟨rfl, hb11⟩
            rw [same_iff, decide_eq_true HE.out]
            have HB11 := Lib.hid (blw HB10.out hb11)
            clear hb11
            go_wp2_with fail
            go_ret
            exact ⟨ret_bool HBQ.out, HB11.out⟩
          · have HE := Lib.hid (fun e => he (HINJ.out.2 e))
            have HBQ := Lib.hid (show (!(lt == lu)) = true by rw [beq_false_of_ne he]; rfl)
            clear he HINJ
            go_wp2_with fail
            refine (same_any t u A0 A1 B0 B1 c0 c1 d0 d1 w10 HT10.out.row.r0 HT10.out.row.r1 HU10.out.row.r0 HU10.out.row.r1).mono ?_
            rintro e w11 ⟨rfl, hb11⟩
            rw [same_iff, decide_eq_false HE.out]
            have HB11 := Lib.hid (blw HB10.out hb11)
            clear hb11
            go_wp2_with fail
            go_ret
            exact ⟨ret_bool HBQ.out, HB11.out⟩
      · have bne2 : (er2 != 0) = true := by rw [bne_iff_ne]; exact he2
        clear he2
        go_wp2_with fail
        go_ret
        exact ⟨rfl, HB10.out⟩
  · have bne1 : (er != 0) = true := by rw [bne_iff_ne]; exact he
    clear he
    go_wp2_with fail
    go_ret
    exact ⟨rfl, HB5.out⟩
end Go.Proofs.Ytoiejgmfgcdniaa
