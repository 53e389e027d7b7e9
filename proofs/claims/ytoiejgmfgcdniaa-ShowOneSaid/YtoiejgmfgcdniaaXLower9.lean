import Derived.Test.YtoiejgmfgcdniaaXLower8
set_option linter.unusedVariables false
set_option linter.unusedSimpArgs false
namespace Go.Proofs.Ytoiejgmfgcdniaa
open Go.RowKit Go.Proofs.YtoiejgmfgcdniaaW.PrintWords
open Go.Maps (Keyed)

/-! ### node, an Alt; any node -/
set_option maxRecDepth 100000 in
set_option maxHeartbeats 2000000 in
theorem node_alt (w0 : World) (N : Nat) (rv : Value) (A1 : Option Addr) (c1 : Nat) (ns : List Node) (w : World) (m : LowM) (s : LowS) (left : Int) (n : Nat) (x : Node) (hx : ns[n]? = some x)
    (ht : TreeOk w0 A1 ns) (hw : Below w0.heap.size w0 w) (h : LSt w0.heap.size N rv (.slice A1 ns.length c1) w m s) (hp : s.prods.length + x.kids.length + 2 ≤ 1000000)
    (hk : x.kind = 2) :
    Calls Try.prog 48 #[.pointer (some ⟨m.g, 0, none⟩), .int .i64 left, .int .i64 n] w (NodePost w0.heap.size N rv (.slice A1 ns.length c1) w m s (nodeP s ns left n x)) := by
  have hlt : n < ns.length := (List.getElem?_eq_some_iff.1 hx).1
  obtain ⟨ad, x', A2, c2, had, hx', e0', e1', e2', l2, k2⟩ := at_Node ht.row n hlt
  obtain rfl : x = x' := by rw [hx] at hx'; exact Option.some.inj hx'
  have e0 := pw_cell_below hw e0'
  have e1 := pw_cell_below hw e1'
  have e2 := pw_cell_below hw e2'
  have hmx := Kd.C_max ht.row
  have hkok := (ht.ok x (List.mem_of_getElem? hx)).2.1
  have hklen := (ht.ok x (List.mem_of_getElem? hx)).2.2
  subst had
  have HKOK := Lib.hid hkok
  obtain ⟨d0, d1, _, d3, d4, d5, _⟩ := h.cs
  have hgl := blk_lt h.cells
  have H := Lib.hid h
  have HT := Lib.hid ht
  have HW := Lib.hid hw
  have K2 := Lib.hid (Kd.C_below k2 hw)
  have hsw := hw.size
  have hnp : Hid (nodeP s ns left n x = x.kids.map (altP s ns left)) := Lib.hid (by unfold nodeP; rw [hk]; rfl)
  have b1 : (x.kind == 1) = false := by rw [hk]; rfl
  have b2 : (x.kind == 2) = true := by rw [hk]; rfl
  have b3 : (x.kind == 3) = false := by rw [hk]; rfl
  have b4 : (x.kind == 4) = false := by rw [hk]; rfl
  have b5 : (x.kind == 5) = false := by rw [hk]; rfl
  have hcf : ∀ args W, (callFunc 98 args).run Try.prog W = .ok (.enter 98 args) W := by intro args W; simp [callFunc, go_sem, Try.func98]; rfl
  have K20 := Lib.hid k2
  clear ht h hw hx hx' e0' e1' e2' l2 k2 hk hkok
  obtain ⟨g, bt, br, bo, nv, pv⟩ := m
  simp only at d0 d1 d3 d4 d5 hgl
  go_enter Try.func48, Try.ntmps48
  go_wp2_with fail
  have hb2 := bel2n (w := w) (.cells #[.int .i64 x.kind, .string x.name, .slice A2 x.kids.length c2] 57) (.cells #[.bool true, .int .i64 left] 41)
  generalize (w.alloc (.cells #[.int .i64 x.kind, .string x.name, .slice A2 x.kids.length c2] 57)).alloc (.cells #[.bool true, .int .i64 left] 41) = W at *
  have HB2 := Lib.hid hb2
  have HL1 := Lib.hid (H.out.below hb2)
  clear hb2 e0 e1 e2 d0 d1 d3 d4 d5
  go_loopw [46] (fun i wr => ∃ (j : Nat) (pv : Value), j ≤ x.kids.length ∧ i = .int .i64 j ∧ Hid (LSt w0.heap.size N rv (.slice (some ad) ns.length c1) wr ⟨g, bt, br, bo, nv, pv⟩ { s with prods := s.prods ++ (x.kids.take j).map (altP s ns left) }) ∧ Hid (Fr w0.heap.size [] [98, 39] w wr)) (fun i _ => x.kids.length - (intOf i).toNat)
  case atStart => exact ⟨0, pv, Nat.zero_le _, rfl, Lib.hid (by simpa using HL1.out), Fr.of_below HB2.out⟩
  case round =>
    clear HL1 HB2
    obtain ⟨j, pv1, hj, rfl, HL, HF⟩ := hrel
    have HB := Lib.hid (HW.out.trans (HF.out.toBelow HW.out.size))
    have HSZ := Lib.hid (show w0.heap.size ≤ wr.heap.size from by have := HB.out.size; omega)
    by_cases hlt : j < x.kids.length
    · obtain ⟨a3, k, had3, hk, e4⟩ := at_int (Kd.C_below K20.out HB.out) j hlt
      have HK := Lib.hid hk
      have HTK := Lib.hid (take_of hk)
      obtain ⟨k0, k1⟩ := HKOK.out k (List.mem_of_getElem? hk)
      obtain ⟨kn, rfl⟩ : ∃ kn : Nat, k = kn := ⟨k.toNat, by omega⟩
      subst had3
      clear hk
      obtain ⟨ad2, nd, A3, c3, had, hnd, f0', f1', f2', l3, k3⟩ := at_Node HT.out.row kn (by omega)
      obtain rfl : ad = ad2 := Option.some.inj had
      have f0 := pw_cell_below HB.out f0'
      have f1 := pw_cell_below HB.out f1'
      have f2 := pw_cell_below HB.out f2'
      have HND := Lib.hid hnd
      have hno := HT.out.ok nd (List.mem_of_getElem? hnd)
      have HNO := Lib.hid hno
      have K3 := Lib.hid k3
      have hna : nodeAt ns kn = nd := by unfold nodeAt; rw [Int.toNat_natCast, hnd]; rfl
      have HNA := Lib.hid hna
      have hplen : ({ s with prods := s.prods ++ (x.kids.take j).map (altP s ns left) } : LowS).prods.length ≤ 1000000 := by show (s.prods ++ _).length ≤ _; rw [List.length_append, List.length_map, List.length_take]; omega
      have HPL := Lib.hid hplen
      have hgl2 := blk_lt HL.out.cells
      obtain ⟨_, d1, _⟩ := HL.out.cs
      simp only at d1 hgl2
      clear had hnd f0' f1' f2' l3 k3 hno hna hplen
      obtain ⟨wo, rfl⟩ : ∃ wo : World, wo = wr := ⟨_, rfl⟩
      by_cases h1 : nd.kind = 1
      · have bb1 : (nd.kind == 1) = true := beq_iff_eq.2 h1
        have hap : Hid (altP s ns left kn = ⟨left, nd.kids.map (sgOf s ns)⟩) := Lib.hid (by unfold altP; rw [HNA.out, if_pos h1])
        clear h1
        go_wp2_with fail
        refine (all_any 98 (.pointer (some ⟨g, 0, none⟩)) (sgOf s ns) A3 nd.kids.length c3 nd.kids _ (Kd.C_below K3.out HB.out) (by have := HNO.out.2.2; omega) hcf (fun k W hk hb => symk (s := { s with prods := s.prods ++ (x.kids.take j).map (altP s ns left) }) (m := ⟨g, bt, br, bo, nv, pv1⟩) HT.out (blwB (Nat.le_refl _) HB.out (hb.mono (Nat.le_refl _))) (HL.out.below hb) k (HNO.out.2.1 k hk).1 (HNO.out.2.1 k hk).2)).mono ?_
        rintro e w1 ⟨v, rfl, hv, hb1⟩
        have HB2 := Lib.hid hb1
        have HV := Lib.hid (Kd.R_lower hv HSZ.out)
        clear hv hb1 e4 f0 f1 f2 d1
        go_wp2_with fail
        refine (lay_any w0.heap.size N rv (.slice (some ad) ns.length c1) _ ⟨g, bt, br, bo, nv, pv1⟩ { s with prods := s.prods ++ (x.kids.take j).map (altP s ns left) } left _ (nd.kids.map (sgOf s ns)) (HL.out.below HB2.out) HV.out (Nat.le_trans HSZ.out HB2.out.size) HPL.out).mono ?_
        rintro e w2 ⟨rfl, pv2, hL2, hF2⟩
        have HL2 := Lib.hid hL2
        have HF2 := Lib.hid (HF.out.trans ((Fr.of_below HB2.out).trans hF2))
        clear hL2 hF2
        go_wp2_with fail
        go_roundw
        case rel => exact ⟨j + 1, pv2, by omega, by go_num, Lib.hid (by rw [HTK.out, List.map_append, List.map_singleton, hap.out, ← List.append_assoc]; exact HL2.out), HF2⟩
        case measure => simp [intOf]; omega
      · have bb1 : (nd.kind == 1) = false := beq_eq_false_iff_ne.2 h1
        have hap : Hid (altP s ns left kn = ⟨left, [sgOf s ns kn]⟩) := Lib.hid (by unfold altP; rw [HNA.out, if_neg h1])
        clear h1
        go_wp2_with fail
        refine (symk (s := { s with prods := s.prods ++ (x.kids.take j).map (altP s ns left) }) (m := ⟨g, bt, br, bo, nv, pv1⟩) HT.out HB.out HL.out kn (by omega) (by omega)).mono ?_
        rintro e w1 ⟨rfl, hb1⟩
        have hsg2 : sgOf { s with prods := s.prods ++ (x.kids.take j).map (altP s ns left) } ns kn = sgOf s ns kn := rfl
        rw [hsg2]
        have HB2 := Lib.hid hb1
        generalize sgOf s ns kn = sg at *
        clear hb1 e4 f0 f1 f2 d1 hsg2
        go_wp2_with fail
        refine (lay_any w0.heap.size N rv (.slice (some ad) ns.length c1) _ ⟨g, bt, br, bo, nv, pv1⟩ { s with prods := s.prods ++ (x.kids.take j).map (altP s ns left) } left _ [sg] ((HL.out.below HB2.out).below (below_alloc (Below.refl _ _) _)) (sym_row1 _ _ (Nat.le_trans HSZ.out HB2.out.size) sg) (by rw [size_alloc]; exact Nat.le_succ_of_le (Nat.le_trans HSZ.out HB2.out.size)) HPL.out).mono ?_
        rintro e w2 ⟨rfl, pv2, hL2, hF2⟩
        have HL2 := Lib.hid hL2
        have HF2 := Lib.hid (HF.out.trans ((Fr.of_below (blw HB2.out (below_alloc (Below.refl _ _) _))).trans hF2))
        clear hL2 hF2
        go_wp2_with fail
        go_roundw
        case rel => exact ⟨j + 1, pv2, by omega, by go_num, Lib.hid (by rw [HTK.out, List.map_append, List.map_singleton, hap.out, ← List.append_assoc]; exact HL2.out), HF2⟩
        case measure => simp [intOf]; omega
    · have HE : Hid (x.kids.take j = x.kids) := Lib.hid (List.take_of_length_le (by omega))
      go_wp2_with fail
      go_end0
      exact ⟨rfl, pv1, by rw [hnp.out]; have := HL.out; rwa [HE.out] at this, HF.out⟩
theorem node_any (w0 : World) (N : Nat) (rv : Value) (A1 : Option Addr) (c1 : Nat) (ns : List Node) (w : World) (m : LowM) (s : LowS) (left : Int) (n : Nat) (x : Node) (hx : ns[n]? = some x)
    (ht : TreeOk w0 A1 ns) (hw : Below w0.heap.size w0 w) (h : LSt w0.heap.size N rv (.slice A1 ns.length c1) w m s) (hp : s.prods.length + x.kids.length + 2 ≤ 1000000)
    (hne : x.kind = 3 ∨ x.kind = 4 ∨ x.kind = 5 → x.kids ≠ []) :
    Calls Try.prog 48 #[.pointer (some ⟨m.g, 0, none⟩), .int .i64 left, .int .i64 n] w (NodePost w0.heap.size N rv (.slice A1 ns.length c1) w m s (nodeP s ns left n x)) := by
  by_cases h1 : x.kind = 1
  · exact node_seq w0 N rv A1 c1 ns w m s left n x hx ht hw h hp h1
  by_cases h2 : x.kind = 2
  · exact node_alt w0 N rv A1 c1 ns w m s left n x hx ht hw h hp h2
  by_cases h3 : x.kind = 3
  · exact node_star w0 N rv A1 c1 ns w m s left n x hx ht hw h hp h3 (hne (.inl h3))
  by_cases h4 : x.kind = 4
  · exact node_plus w0 N rv A1 c1 ns w m s left n x hx ht hw h hp h4 (hne (.inr (.inl h4)))
  by_cases h5 : x.kind = 5
  · exact node_opt w0 N rv A1 c1 ns w m s left n x hx ht hw h hp h5 (hne (.inr (.inr h5)))
  exact node_rest w0 N rv A1 c1 ns w m s left n x hx ht hw h hp ⟨h1, h2, h3, h4, h5⟩
end Go.Proofs.Ytoiejgmfgcdniaa
