import Derived.Test.YtoiejgmfgcdniaaXAw7
import Derived.Test.YtoiejgmfgcdniaaXSb6
import Derived.Test.YtoiejgmfgcdniaaXLaw3
set_option linter.unusedVariables false
set_option linter.unusedSimpArgs false
namespace Go.Proofs.Ytoiejgmfgcdniaa
open Go.RowKit Go.Proofs.YtoiejgmfgcdniaaW.PrintWords

/-! ### ShowBack -/
theorem same_iff (a b : Tree) : a.same b = decide (a = b) := by
  obtain ⟨r, n⟩ := a
  obtain ⟨r', n'⟩ := b
  unfold Tree.same
  by_cases h1 : r = r' <;> by_cases h2 : n = n' <;> simp [h1, h2]
theorem show_inj {t u : Tree} (ht : t.right = true) (hu : u.right = true) (h1 : (showL t).length ≤ 4000) (h2 : (showL u).length ≤ 4000) : showL t = showL u ↔ t = u := by
  constructor
  · intro e
    have a := show_back ht h1
    rw [e, show_back hu h2] at a
    exact (congrArg Prod.fst a).symm
  · rintro rfl; rfl
theorem showP_cases (t : Tree) : (t.right = false ∧ showP t = (⟨#[]⟩, 1)) ∨ (t.right = true ∧ 4000 < (showL t).length ∧ showP t = (⟨#[]⟩, 5)) ∨ (t.right = true ∧ (showL t).length ≤ 4000 ∧ showP t = (⟨(showL t).toArray⟩, 0)) := by
  unfold showP
  cases hr : t.right with
  | false => exact .inl ⟨rfl, if_pos rfl⟩
  | true =>
    by_cases h : 4000 < (showL t).length
    · exact .inr (.inl ⟨rfl, h, by rw [if_neg (by decide), if_pos h]⟩)
    · exact .inr (.inr ⟨rfl, by omega, by rw [if_neg (by decide), if_neg h]⟩)
theorem str_arr (a b : List UInt8) : ((⟨a.toArray⟩ : ByteArray).toList == (⟨b.toArray⟩ : ByteArray).toList) = decide (a = b) := by
  rw [str_eq]
  by_cases h : a = b
  · subst h; simp
  · rw [decide_eq_false h, decide_eq_false]
    intro e
    have := congrArg (fun x : ByteArray => x.data.toList) e
    simp at this
    exact h this
structure Box2 (w : World) (t u : Tree) (p0 p1 : Nat) (A0 : Option Addr) (c0 : Nat) (A1 : Option Addr) (c1 : Nat) (B0 : Option Addr) (d0 : Nat) (B1 : Option Addr) (d1 : Nat) : Prop where
  b0 : w.heap[p0]? = some (.cells #[.slice A0 t.rules.length c0, .slice A1 t.nodes.length c1] 25 (0, 0))
  b1 : w.heap[p1]? = some (.cells #[.slice B0 u.rules.length d0, .slice B1 u.nodes.length d1] 25 (0, 0))
  rt : TreeRow w t A0 c0 A1 c1
  ru : TreeRow w u B0 d0 B1 d1
theorem Box2.below {w w1 : World} {t u : Tree} {p0 p1 : Nat} {A0 : Option Addr} {c0 : Nat} {A1 : Option Addr} {c1 : Nat} {B0 : Option Addr} {d0 : Nat} {B1 : Option Addr} {d1 : Nat} (h : Box2 w t u p0 p1 A0 c0 A1 c1 B0 d0 B1 d1) (hb : Below w.heap.size w w1) : Box2 w1 t u p0 p1 A0 c0 A1 c1 B0 d0 B1 d1 :=
  ⟨blk_below h.b0 hb, blk_below h.b1 hb, h.rt.below hb, h.ru.below hb⟩
section
variable (t u : Tree) (A0 : Option Addr) (c0 : Nat) (A1 : Option Addr) (c1 : Nat) (B0 : Option Addr) (d0 : Nat) (B1 : Option Addr) (d1 : Nat) (w : World)
set_option maxRecDepth 100000 in
set_option maxHeartbeats 2000000 in
theorem back_large (hr0 : Kd.C kRule w A0 t.rules.length t.rules) (hr1 : Kd.C kNode w A1 t.nodes.length t.nodes) (hs0 : Kd.C kRule w B0 u.rules.length u.rules) (hs1 : Kd.C kNode w B1 u.nodes.length u.nodes) (hL : largeB t = true ∨ largeB u = true) :
    Calls Try.prog 8 #[.agg #[.slice A0 t.rules.length c0, .slice A1 t.nodes.length c1], .agg #[.slice B0 u.rules.length d0, .slice B1 u.nodes.length d1]] w (TrueBelow w) := by
  have HR0 := Lib.hid hr0
  have HR1 := Lib.hid hr1
  have HS0 := Lib.hid hs0
  have HS1 := Lib.hid hs1
  have HL := Lib.hid hL
  clear hr0 hr1 hs0 hs1 hL
  go_enter Try.func8, Try.ntmps8
  go_wp2_with fail
  refine (awake7_any _).mono ?_
  rintro e w1 ⟨rfl, hb1⟩
  obtain ⟨g0, g1, hb, hlt⟩ := bel2 hb1
  obtain ⟨x0, x1⟩ := cells2 g0
  obtain ⟨y0, y1⟩ := cells2 g1
  have G1 := Lib.hid g1
  have HB := Lib.hid hb
  clear g0 g1 hb hb1
  go_wp2_with fail
  refine (large_any t A0 c0 A1 c1 w1 (Kd.C_below HR0.out HB.out) (Kd.C_below HR1.out HB.out)).mono ?_
  rintro e w2 ⟨rfl, hb2⟩
  have HB2 := Lib.hid (blw HB.out hb2)
  have hg1 := blk_below G1.out hb2
  obtain ⟨z0, z1⟩ := cells2 hg1
  have hl := blk_lt hg1
  clear hb2 x0 x1 y0 y1 hg1
  cases hlt : largeB t with
  | true =>
    clear hlt
    go_wp2_with fail
    go_ret
    exact ⟨rfl, HB2.out⟩
  | false =>
    have hu := HL.out.resolve_left (by rw [hlt]; decide)
    clear HL hlt
    have HU := Lib.hid hu
    clear hu
    go_wp2_with fail
    refine (large_any u B0 d0 B1 d1 w2 (Kd.C_below HS0.out HB2.out) (Kd.C_below HS1.out HB2.out)).mono ?_
    rintro e w3 ⟨rfl, hb3⟩
    rw [HU.out]
    have HB3 := Lib.hid (blw HB2.out hb3)
    clear hb3
    go_wp2_with fail
    go_ret
    exact ⟨rfl, HB3.out⟩
set_option maxRecDepth 100000 in
set_option maxHeartbeats 4000000 in
theorem back_small (ht : TreeRow w t A0 c0 A1 c1) (hu : TreeRow w u B0 d0 B1 d1) (hLt : largeB t = false) (hLu : largeB u = false) :
    Calls Try.prog 8 #[.agg #[.slice A0 t.rules.length c0, .slice A1 t.nodes.length c1], .agg #[.slice B0 u.rules.length d0, .slice B1 u.nodes.length d1]] w (TrueBelow w) := by
  have HT := Lib.hid ht
  have HU := Lib.hid hu
  have HLT := Lib.hid hLt
  have HLU := Lib.hid hLu
  clear ht hu hLt hLu
  go_enter Try.func8, Try.ntmps8
  go_wp2_with fail
  refine (awake7_any _).mono ?_
  rintro e w1 ⟨rfl, hb1⟩
  obtain ⟨g0, g1, hb, hlt⟩ := bel2 hb1
  have HX1 := Lib.hid (show Box2 w1 t u w.heap.size (w.heap.size + 1) A0 c0 A1 c1 B0 d0 B1 d1 from ⟨g0, g1, HT.out.below hb, HU.out.below hb⟩)
  have HB1 := Lib.hid hb
  obtain ⟨x0, x1⟩ := cells2 g0
  clear g0 g1 hb hb1
  go_wp2_with fail
  refine (large_any t A0 c0 A1 c1 w1 HX1.out.rt.r0 HX1.out.rt.r1).mono ?_
  rintro e w2 ⟨rfl, hb2⟩
  rw [HLT.out]
  have HX2 := Lib.hid (HX1.out.below hb2)
  have HB2 := Lib.hid (blw HB1.out hb2)
  obtain ⟨y0, y1⟩ := cells2 HX2.out.b1
  have l2 := blk_lt HX2.out.b1
  clear x0 x1 hb2 HX1 HB1
  go_wp2_with fail
  refine (large_any u B0 d0 B1 d1 w2 HX2.out.ru.r0 HX2.out.ru.r1).mono ?_
  rintro e w3 ⟨rfl, hb3⟩
  rw [HLU.out]
  have HX3 := Lib.hid (HX2.out.below hb3)
  have HB3 := Lib.hid (blw HB2.out hb3)
  obtain ⟨x0, x1⟩ := cells2 HX3.out.b0
  have l3 := blk_lt HX3.out.b0
  clear y0 y1 hb3 HX2 HB2 l2
  go_wp2_with fail
  refine (stext_any t A0 c0 A1 c1 w3 HX3.out.rt).mono ?_
  rintro e w4 ⟨rfl, hb4⟩
  have HX4 := Lib.hid (HX3.out.below hb4)
  have HB4 := Lib.hid (blw HB3.out hb4)
  obtain ⟨y0, y1⟩ := cells2 HX4.out.b1
  have l4 := blk_lt HX4.out.b1
  clear x0 x1 hb4 HX3 HB3 l3
  go_wp2_with fail
  refine (stext_any u B0 d0 B1 d1 w4 HX4.out.ru).mono ?_
  rintro e w5 ⟨rfl, hb5⟩
  have HX5 := Lib.hid (HX4.out.below hb5)
  have HB5 := Lib.hid (blw HB4.out hb5)
  obtain ⟨x0, x1⟩ := cells2 HX5.out.b0
  obtain ⟨y0, y1⟩ := cells2 HX5.out.b1
  have l5 := blk_lt HX5.out.b0
  have l6 := blk_lt HX5.out.b1
  clear hb5 HX4 HB4 l4 hlt
  rcases showP_cases t with ⟨hr, hp⟩ | ⟨hr, hbig, hp⟩ | ⟨hr, hsm, hp⟩
  · have HR := Lib.hid hr
    rw [hp]
    clear hp hr
    go_wp2_with fail
    refine (right_any t A0 c0 A1 c1 w5 HX5.out.rt.r0 HX5.out.rt.l0 HX5.out.rt.r1 HX5.out.rt.l1 HX5.out.rt.s1).mono ?_
    rintro e w6 ⟨rfl, hb6⟩
    rw [HR.out]
    have HB6 := Lib.hid (blw HB5.out hb6)
    clear hb6
    go_wp2_with fail
    go_ret
    exact ⟨rfl, HB6.out⟩
  · have HR := Lib.hid hr
    rw [hp]
    clear hp hr
    go_wp2_with fail
    refine (right_any t A0 c0 A1 c1 w5 HX5.out.rt.r0 HX5.out.rt.l0 HX5.out.rt.r1 HX5.out.rt.l1 HX5.out.rt.s1).mono ?_
    rintro e w6 ⟨rfl, hb6⟩
    rw [HR.out]
    have HB6 := Lib.hid (blw HB5.out hb6)
    clear hb6
    go_wp2_with fail
    go_ret
    exact ⟨rfl, HB6.out⟩
  · have HR := Lib.hid hr
    have HBK := Lib.hid (show_back hr hsm)
    have HSM := Lib.hid hsm
    have hsz : (⟨(showL t).toArray⟩ : ByteArray).size ≤ 4000 := by simpa [ByteArray.size] using hsm
    rw [hp]
    clear hp hr
    go_wp2_with fail
    refine (read_any ⟨(showL t).toArray⟩ w5).mono ?_
    intro e w6 hp6
    rw [show (⟨(showL t).toArray⟩ : ByteArray).data.toList = showL t from by simp, HBK.out] at hp6
    obtain ⟨D0, k0, D1, k1, he, _, q0, _, q1, hb6⟩ := hp6
    simp only at he q0 q1
    subst he
    have hbx := blk_new w6 (.cells #[.slice D0 t.rules.length k0, .slice D1 t.nodes.length k1] 25)
    have hb7 := below_alloc (Below.refl w6.heap.size w6) (.cells #[.slice D0 t.rules.length k0, .slice D1 t.nodes.length k1] 25)
    have HX7 := Lib.hid (HX5.out.below (blw hb6 hb7))
    have HB7 := Lib.hid (blw HB5.out (blw hb6 hb7))
    have Q0 := Lib.hid (Kd.C_below q0 hb7)
    have Q1 := Lib.hid (Kd.C_below q1 hb7)
    clear q0 q1 hb6 x0 x1 y0 y1 l5 l6 hb7
    go_upto_region 10 with (fail)
    generalize w6.alloc (.cells #[.slice D0 t.rules.length k0, .slice D1 t.nodes.length k1] 25) = V at *
    have HBX := Lib.hid hbx
    obtain ⟨x0, x1⟩ := cells2 HX7.out.b0
    have l5 := blk_lt HX7.out.b0
    clear hbx
    go_wp2_with fail
    refine (right_any t A0 c0 A1 c1 V HX7.out.rt.r0 HX7.out.rt.l0 HX7.out.rt.r1 HX7.out.rt.l1 HX7.out.rt.s1).mono ?_
    rintro e w8 ⟨rfl, hb8⟩
    rw [HR.out]
    have HX8 := Lib.hid (HX7.out.below hb8)
    have HB8 := Lib.hid (blw HB7.out hb8)
    have P0 := Lib.hid (Kd.C_below Q0.out hb8)
    have P1 := Lib.hid (Kd.C_below Q1.out hb8)
    have hbx8 := blk_below HBX.out hb8
    obtain ⟨z0, z1⟩ := cells2 hbx8
    have l7 := blk_lt hbx8
    obtain ⟨y0, y1⟩ := cells2 HX8.out.b0
    have l8 := blk_lt HX8.out.b0
    clear hb8 hbx8 x0 x1 l5 HX7 HB7
    go_wp2_with fail
    refine (same_any t t D0 D1 A0 A1 k0 k1 c0 c1 w8 P0.out P1.out HX8.out.rt.r0 HX8.out.rt.r1).mono ?_
    rintro e w9 ⟨rfl, hb9⟩
    rw [show t.same t = true by rw [same_iff]; simp]
    have HX9 := Lib.hid (HX8.out.below hb9)
    have HB9 := Lib.hid (blw HB8.out hb9)
    obtain ⟨x0, x1⟩ := cells2 HX9.out.b0
    obtain ⟨v0, v1⟩ := cells2 HX9.out.b1
    have l5 := blk_lt HX9.out.b0
    have l6 := blk_lt HX9.out.b1
    clear hb9 HX8 HB8 z0 z1 l7 y0 y1 l8 P0 P1 Q0 Q1 HBX
    rcases showP_cases u with ⟨hu, hq⟩ | ⟨hu, hbig, hq⟩ | ⟨hu, hsm2, hq⟩
    · rw [hq]
      clear hq hu
      go_wp2_with fail
      go_ret
      exact ⟨rfl, HB9.out⟩
    · rw [hq]
      clear hq hu
      go_wp2_with fail
      go_ret
      exact ⟨rfl, HB9.out⟩
    · have HINJ := Lib.hid (show_inj HR.out hu HSM.out hsm2)
      have HEQ := str_arr (showL t) (showL u)
      rw [hq]
      clear hq hu hsm2
      generalize showL u = lu at *
      generalize showL t = lt at *
      by_cases he : lt = lu
      · have heq := decide_eq_true he
        rw [heq] at HEQ
        have HE := Lib.hid (HINJ.out.1 he)
        have HBQ := Lib.hid (show (lt == lu) = true from beq_iff_eq.2 he)
        clear he heq HINJ
        go_wp2_with fail
        refine (same_any t u A0 A1 B0 B1 c0 c1 d0 d1 w9 HX9.out.rt.r0 HX9.out.rt.r1 HX9.out.ru.r0 HX9.out.ru.r1).mono ?_
        rintro e w10 ⟨rfl, hb10⟩
        rw [same_iff, decide_eq_true HE.out]
        have HB10 := Lib.hid (blw HB9.out hb10)
        clear hb10
        go_wp2_with fail
        go_ret
        exact ⟨ret_bool HBQ.out, HB10.out⟩
      · have heq := decide_eq_false he
        rw [heq] at HEQ
        have HE := Lib.hid (fun e => he (HINJ.out.2 e))
        have HBQ := Lib.hid (show (!(lt == lu)) = true by rw [beq_false_of_ne he]; rfl)
        clear he heq HINJ
        go_wp2_with fail
        refine (same_any t u A0 A1 B0 B1 c0 c1 d0 d1 w9 HX9.out.rt.r0 HX9.out.rt.r1 HX9.out.ru.r0 HX9.out.ru.r1).mono ?_
        rintro e w10 ⟨rfl, hb10⟩
        rw [same_iff, decide_eq_false HE.out]
        have HB10 := Lib.hid (blw HB9.out hb10)
        clear hb10
        go_wp2_with fail
        go_ret
        exact ⟨ret_bool HBQ.out, HB10.out⟩
end
theorem back_any (t u : Tree) (A0 : Option Addr) (c0 : Nat) (A1 : Option Addr) (c1 : Nat) (B0 : Option Addr) (d0 : Nat) (B1 : Option Addr) (d1 : Nat) (w : World) (hr0 : Kd.C kRule w A0 t.rules.length t.rules) (hl0 : t.rules.length ≤ c0) (hr1 : Kd.C kNode w A1 t.nodes.length t.nodes) (hl1 : t.nodes.length ≤ c1) (hs0 : Kd.C kRule w B0 u.rules.length u.rules) (hm0 : u.rules.length ≤ d0) (hs1 : Kd.C kNode w B1 u.nodes.length u.nodes) (hm1 : u.nodes.length ≤ d1) :
    Calls Try.prog 8 #[.agg #[.slice A0 t.rules.length c0, .slice A1 t.nodes.length c1], .agg #[.slice B0 u.rules.length d0, .slice B1 u.nodes.length d1]] w (TrueBelow w) := by
  cases hLt : largeB t with
  | true => exact back_large t u A0 c0 A1 c1 B0 d0 B1 d1 w hr0 hr1 hs0 hs1 (.inl hLt)
  | false =>
    cases hLu : largeB u with
    | true => exact back_large t u A0 c0 A1 c1 B0 d0 B1 d1 w hr0 hr1 hs0 hs1 (.inr hLu)
    | false => exact back_small t u A0 c0 A1 c1 B0 d0 B1 d1 w (TreeRow.of_large hr0 hl0 hr1 hl1 hLt) (TreeRow.of_large hs0 hm0 hs1 hm1 hLu) hLt hLu
end Go.Proofs.Ytoiejgmfgcdniaa
