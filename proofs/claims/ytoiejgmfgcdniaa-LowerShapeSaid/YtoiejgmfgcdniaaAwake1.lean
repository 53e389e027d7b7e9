import Derived.Test.YtoiejgmfgcdniaaLaw2
set_option linter.unusedVariables false
set_option linter.unusedSimpArgs false
namespace Go.Proofs.Ytoiejgmfgcdniaa
open Go.RowKit Go.Proofs.YtoiejgmfgcdniaaW.PrintWords

/-! ### names, and Same, where both are alike -/
set_option maxRecDepth 100000 in
set_option maxHeartbeats 1000000 in
theorem names_eq (A1 A2 : Option Addr) (c1 c2 : Nat) (l : List ByteArray) (w : World) (h1 : Kd.C Kd.string w A1 l.length l) (h2 : Kd.C Kd.string w A2 l.length l) :
    Calls Try.prog 46 #[.slice A1 l.length c1, .slice A2 l.length c2] w (TrueBelow w) := by
  have H1 := Lib.hid h1
  have H2 := Lib.hid h2
  have hm := Kd.C_max h1
  clear h1 h2
  go_enter Try.func46, Try.ntmps46
  go_wp2_with fail
  go_loopw [13] (fun i wr => ∃ k : Nat, k ≤ l.length ∧ i = .int .i64 k ∧ Hid (Below w.heap.size w wr)) (fun i _ => l.length - (intOf i).toNat)
  case atStart => exact ⟨0, Nat.zero_le _, rfl, Lib.hid (Below.refl _ _)⟩
  case round =>
    obtain ⟨k, hk, rfl, HB⟩ := hrel
    by_cases hlt : k < l.length
    · obtain ⟨a1, x1, rfl, hx1, e1⟩ := at_string (Kd.C_below H1.out HB.out) k hlt
      obtain ⟨a2, x2, rfl, hx2, e2⟩ := at_string (Kd.C_below H2.out HB.out) k hlt
      obtain rfl : x1 = x2 := by rw [hx1] at hx2; exact Option.some.inj hx2
      clear hx1 hx2
      have hstr : (x1.toList == x1.toList) = true := by simp
      obtain ⟨w1, rfl⟩ : ∃ w1 : World, w1 = wr := ⟨_, rfl⟩
      go_upto_region 6 with (fail)
      go_quiet (fail)
      have HB2 := Lib.hid (blw HB.out (pw_below_drewN (Below.refl w1.heap.size w1) nq))
      go_wp2_with fail
      go_roundw
      case rel => exact ⟨k + 1, by omega, by go_num, HB2⟩
      case measure => simp [intOf]; omega
    · go_wp2_with fail
      go_ret
      exact ⟨rfl, HB.out⟩
set_option maxRecDepth 100000 in
set_option maxHeartbeats 2000000 in
theorem same_eq (g : Gram) (A1 A2 : Option Addr) (c1 c2 : Nat) (w : World) (h1 : Kd.C kProd w A1 g.prods.length g.prods) (h2 : Kd.C kProd w A2 g.prods.length g.prods) (hx : ∀ p, p ∈ g.prods → p.right.length ≤ 1000) (hl : g.prods.length ≤ 1000) :
    Calls Try.prog 45 #[.agg #[.int .i64 g.terms, .int .i64 g.nons, .int .i64 g.start, .slice A1 g.prods.length c1], .agg #[.int .i64 g.terms, .int .i64 g.nons, .int .i64 g.start, .slice A2 g.prods.length c2]] w (TrueBelow w) := by
  have H1 := Lib.hid h1
  have H2 := Lib.hid h2
  have HX := Lib.hid hx
  clear h1 h2 hx
  obtain ⟨tm, nn, st, ps⟩ := g
  simp only at H1 H2 HX hl ⊢
  have b1 : (tm != tm) = false := by simp
  have b2 : (nn != nn) = false := by simp
  have b3 : (st != st) = false := by simp
  go_enter Try.func45, Try.ntmps45
  go_wp2_with fail
  have hb := bel2n (w := w) (.cells #[.int .i64 tm, .int .i64 nn, .int .i64 st, .slice A1 ps.length c1] 30) (.cells #[.int .i64 tm, .int .i64 nn, .int .i64 st, .slice A2 ps.length c2] 30)
  have hg1 := blk_alloc (blk_new w (.cells #[.int .i64 tm, .int .i64 nn, .int .i64 st, .slice A1 ps.length c1] 30)) (.cells #[.int .i64 tm, .int .i64 nn, .int .i64 st, .slice A2 ps.length c2] 30)
  have hg2 := blk_new (w.alloc (.cells #[.int .i64 tm, .int .i64 nn, .int .i64 st, .slice A1 ps.length c1] 30)) (.cells #[.int .i64 tm, .int .i64 nn, .int .i64 st, .slice A2 ps.length c2] 30)
  rw [size_alloc] at hg2
  generalize (w.alloc (.cells #[.int .i64 tm, .int .i64 nn, .int .i64 st, .slice A1 ps.length c1] 30)).alloc (.cells #[.int .i64 tm, .int .i64 nn, .int .i64 st, .slice A2 ps.length c2] 30) = W at *
  have HB0 := Lib.hid hb
  have HG1 := Lib.hid hg1
  have HG2 := Lib.hid hg2
  clear hb hg1 hg2
  go_loopw [5] (fun i wr => ∃ k : Nat, k ≤ ps.length ∧ i = .int .i64 k ∧ Hid (Below W.heap.size W wr)) (fun i _ => ps.length - (intOf i).toNat)
  case atStart => exact ⟨0, Nat.zero_le _, rfl, Lib.hid (Below.refl _ _)⟩
  case round =>
    obtain ⟨k, hk, rfl, HBW⟩ := hrel
    have HB := Lib.hid (blw HB0.out HBW.out)
    obtain ⟨i0, i1, i2, i3⟩ := cells4 (blk_below HG1.out HBW.out)
    obtain ⟨j0, j1, j2, j3⟩ := cells4 (blk_below HG2.out HBW.out)
    by_cases hlt : k < ps.length
    · obtain ⟨a1, x, B1, d1, rfl, hx, e0, e1, l2, k2⟩ := at_Prod (Kd.C_below H1.out HB.out) k hlt
      obtain ⟨a2, x', B2, d2, rfl, hx', f0, f1, m2, n2⟩ := at_Prod (Kd.C_below H2.out HB.out) k hlt
      obtain rfl : x = x' := by rw [hx] at hx'; exact Option.some.inj hx'
      have hxl := HX.out x (List.mem_of_getElem? hx)
      have K2 := Lib.hid k2
      have N2 := Lib.hid n2
      have b4 : (x.left != x.left) = false := by simp
      clear hx hx' k2 n2
      obtain ⟨w1, rfl⟩ : ∃ w1 : World, w1 = wr := ⟨_, rfl⟩
      go_upto_region 6 with (fail)
      go_quiet (fail)
      have HBQ := Lib.hid (blw HBW.out (pw_below_drewN (Below.refl w1.heap.size w1) nq))
      have HQ := Lib.hid (pw_below_drewN (Below.refl w1.heap.size w1) nq)
      have HE1 := Lib.hid e1
      have HF1 := Lib.hid f1
      clear i0 i1 i2 i3 j0 j1 j2 j3 e0 e1 f0 f1
      generalize w1.drewN nq = w2 at *
      go_wp2_with fail
      go_loopw [6] (fun i wr => ∃ q : Nat, q ≤ x.right.length ∧ i = .int .i64 q ∧ Hid (Below w2.heap.size w2 wr)) (fun i _ => x.right.length - (intOf i).toNat)
      case atStart => exact ⟨0, Nat.zero_le _, rfl, Lib.hid (Below.refl _ _)⟩
      case round =>
        obtain ⟨q, hq, rfl, HB3⟩ := hrel
        have HB4 := Lib.hid (blw HBQ.out HB3.out)
        have HB1 := Lib.hid (blw HQ.out HB3.out)
        obtain ⟨i0, i1, i2, i3⟩ := cells4 (blk_below HG1.out HB4.out)
        obtain ⟨j0, j1, j2, j3⟩ := cells4 (blk_below HG2.out HB4.out)
        have e1 := pw_cell_below HB1.out HE1.out
        have f1 := pw_cell_below HB1.out HF1.out
        by_cases hlq : q < x.right.length
        · obtain ⟨b1, y, rfl, hy, g0, g1⟩ := at_Sym (Kd.C_below K2.out HB1.out) q hlq
          obtain ⟨b2, y', rfl, hy', h0, h1⟩ := at_Sym (Kd.C_below N2.out HB1.out) q hlq
          obtain rfl : y = y' := by rw [hy] at hy'; exact Option.some.inj hy'
          obtain ⟨nb, sn⟩ := y
          simp only at g0 g1 h0 h1
          clear hy hy'
          obtain ⟨w3, rfl⟩ : ∃ w3 : World, w3 = wr := ⟨_, rfl⟩
          go_upto_region 11 with (fail)
          go_quiet (fail)
          have HB5 := Lib.hid (blw HB3.out (pw_below_drewN (Below.refl w3.heap.size w3) nq))
          go_wp2_with fail
          go_roundw
          case rel => exact ⟨q + 1, by omega, by go_num, HB5⟩
          case measure => simp [intOf]; omega
        · go_wp2_with fail
          go_roundw
          case rel => exact ⟨k + 1, by omega, by go_num, HB4⟩
          case measure => simp [intOf]; omega
    · go_wp2_with fail
      go_ret
      exact ⟨rfl, HB.out⟩
end Go.Proofs.Ytoiejgmfgcdniaa
