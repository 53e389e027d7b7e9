import Derived.Test.YtoiejgmfgcdniaaXSame2
set_option linter.unusedVariables false
set_option linter.unusedSimpArgs false
namespace Go.Proofs.Ytoiejgmfgcdniaa
open Go.RowKit Go.Proofs.YtoiejgmfgcdniaaW.PrintWords

/-! ### Own: a tree as the references' tree -/
theorem info109 : (Try.prog.info? 109).map (fun i => (i.zero, i.size, i.bytes)) = some (some (.agg #[.string ⟨#[]⟩, .int .i64 0]), 2, 24) := by kernel_rfl
theorem info110 : (Try.prog.info? 110).map (fun i => (i.zero, i.size, i.bytes)) = some (some (.agg #[.int .i64 0, .string ⟨#[]⟩, .slice none 0 0]), 3, 48) := by kernel_rfl
def OwnPost (t : Tree) (w : World) (e : Ending) (w' : World) : Prop :=
  ∃ A0 c0 A1 c1, e = .returned (.agg #[.slice A0 t.rules.length c0, .slice A1 t.nodes.length c1]) ∧ t.rules.length ≤ c0 ∧ Kd.C kRule w' A0 t.rules.length t.rules ∧ t.nodes.length ≤ c1 ∧ Kd.C kNode w' A1 t.nodes.length t.nodes ∧ Below w.heap.size w w'
theorem kNode_fix {w0 w : World} (hb : Below w0.heap.size w0 w) {A : Option Addr} {n : Nat} {xs : List Node} (h : Kd.C (Kd.fixed kNode w0) w A n xs) : Kd.C kNode w A n xs :=
  Kd.C_read (d := kNode) (dm := Kd.fixed kNode w0) rfl (fun x cs hk => kNode.K_below hb hk) h
theorem fix_ne (w : World) (t : Nat) (h : 110 ≠ t) : ∀ q, q ∈ 110 :: (Kd.fixed kNode w).E → q ≠ t := fun q hq => by
  have : q = 110 := by simpa [Kd.fixed] using hq
  subst this
  exact h
set_option maxRecDepth 100000 in
set_option maxHeartbeats 2000000 in
theorem own_any (t : Tree) (A0 : Option Addr) (c0 : Nat) (A1 : Option Addr) (c1 : Nat) (w : World) (hr0 : Kd.C kRule w A0 t.rules.length t.rules) (hr1 : Kd.C kNode w A1 t.nodes.length t.nodes) (h0 : t.rules.length ≤ 1000000) (h1 : t.nodes.length ≤ 1000000) :
    Calls Try.prog 23 #[.agg #[.slice A0 t.rules.length c0, .slice A1 t.nodes.length c1]] w (OwnPost t w) := by
  obtain ⟨rs, ns⟩ := t
  simp only at hr0 hr1 h0 h1
  have HR0 := Lib.hid hr0
  have HR1 := Lib.hid hr1
  clear hr0 hr1
  have hg0 := blk_alloc (blk_alloc (blk_new w (.cells #[.slice A0 rs.length c0, .slice A1 ns.length c1] 25)) (.cells #[.slice none 0 0, .slice none 0 0] 48)) (.cells #[.slice none 0 0, .slice none 0 0] 48)
  have hg1 := blk_alloc (blk_new (w.alloc (.cells #[.slice A0 rs.length c0, .slice A1 ns.length c1] 25)) (.cells #[.slice none 0 0, .slice none 0 0] 48)) (.cells #[.slice none 0 0, .slice none 0 0] 48)
  have hg2 := blk_new ((w.alloc (.cells #[.slice A0 rs.length c0, .slice A1 ns.length c1] 25)).alloc (.cells #[.slice none 0 0, .slice none 0 0] 48)) (.cells #[.slice none 0 0, .slice none 0 0] 48)
  rw [size_alloc] at hg1
  rw [size_alloc, size_alloc] at hg2
  have hbb := below_alloc (below_alloc (below_alloc (Below.refl w.heap.size w) (.cells #[.slice A0 rs.length c0, .slice A1 ns.length c1] 25)) (.cells #[.slice none 0 0, .slice none 0 0] 48)) (.cells #[.slice none 0 0, .slice none 0 0] 48)
  go_enter Try.func23, Try.ntmps23
  go_upto_region 2 with (fail)
  generalize (((w.alloc (.cells #[.slice A0 rs.length c0, .slice A1 ns.length c1] 25)).alloc (.cells #[.slice none 0 0, .slice none 0 0] 48)).alloc (.cells #[.slice none 0 0, .slice none 0 0] 48)) = V at *
  obtain ⟨z0, z1⟩ := cells2 hg0
  have HG0 := Lib.hid hg0
  have HG1 := Lib.hid hg1
  have HG2 := Lib.hid hg2
  have HBV := Lib.hid hbb
  have hm0 := Kd.C_max HR0.out
  have hm1 := Kd.C_max HR1.out
  clear hg0 hg1 hg2 hbb
  go_wp2_with fail
  clear z0 z1
  go_loopw [12] (fun i wr => ∃ (k : Nat) (rv : Value), k ≤ rs.length ∧ i = .int .i64 k ∧ Hid (wr.heap[w.heap.size]? = some (.cells #[.slice A0 rs.length c0, .slice A1 ns.length c1] 25 (0, 0))) ∧ Hid (wr.heap[w.heap.size + 1]? = some (.cells #[.slice none 0 0, .slice none 0 0] 48 (0, 0))) ∧
      Hid (wr.heap[w.heap.size + 1 + 1]? = some (.cells #[rv, .slice none 0 0] 48 (0, 0))) ∧ Hid (Kd.R kRule 109 wr w.heap.size (fun _ => True) rv (rs.take k)) ∧ Hid (Below w.heap.size w wr)) (fun i _ => rs.length - (intOf i).toNat)
  case atStart => exact ⟨0, .slice none 0 0, Nat.zero_le _, rfl, HG0, HG1, HG2, Lib.hid (Kd.R_nil _ _ _ _ _), HBV⟩
  case round =>
    clear HG0 HG1 HG2 HBV
    obtain ⟨k, rv, hk, rfl, HG0, HG1, HG2, HO, HB⟩ := hrel
    by_cases hlt : k < rs.length
    · obtain ⟨ad, x, had, hx, e0, e1⟩ := at_Rule (Kd.C_below HR0.out HB.out) k hlt
      have HT := Lib.hid (take_of hx)
      have hbx := below_alloc (Below.refl wr.heap.size wr) (.cells #[.string x.name, .int .i64 x.body] 59)
      have hgx := blk_new wr (.cells #[.string x.name, .int .i64 x.body] 59)
      subst had
      go_upto_region 5 with (fail)
      clear e0 e1 hx
      generalize wr.alloc (.cells #[.string x.name, .int .i64 x.body] 59) = W at *
      have HG0 := Lib.hid (blk_below HG0.out hbx)
      have HG1 := Lib.hid (blk_below HG1.out hbx)
      have HG2 := Lib.hid (blk_below HG2.out hbx)
      have HO1 := Lib.hid (Kd.R_below HO.out hbx)
      have HB1 := Lib.hid (blw HB.out hbx)
      obtain ⟨y0, y1⟩ := cells2 hgx
      obtain ⟨v0, v1⟩ := cells2 HG2.out
      have HL5 : Hid ((rs.take k ++ [x]).length = k + 1) := Lib.hid (by rw [List.length_append, List.length_take, List.length_singleton]; omega)
      have hlen : ((rs.take k).length + 1) * 24 ≤ 140737488355328 := by have := List.length_take_le k rs; omega
      clear hbx hgx HO HB
      go_wp2_with (at_builtin; refine Kd.R_append kRule (w0 := w) w.heap.size rfl (.tmp 17) (.tmp 19) 45 109 _ 24 rfl Try.underlying45 info109 rfl (by decide) (by omega) _ (rs.take k) x [.string x.name, .int .i64 x.body] (fun _ => True) (fun _ => False) rfl rfl (kRule_mkM _ _ _ _) (fun _ hk => hk.elim) (fun _ _ => trivial) HO1.out HB1.out HB1.out.size hlen ?_; intro u w1 ho hb1 hg _; obtain ⟨A5, c5, hv5⟩ := Kd.R_slice ho; rw [HL5.out] at hv5; subst hv5; have k0 := Lib.hid (blk_grown HG0.out hg (Kd.R_ne HO1.out HG0.out (by decide))); have k1 := Lib.hid (blk_grown HG1.out hg (Kd.R_ne HO1.out HG1.out (by decide))); have hk2 := blk_grown HG2.out hg (Kd.R_ne HO1.out HG2.out (by decide)); have k2 := Lib.hid hk2; obtain ⟨q0, q1⟩ := cells2 hk2; have qf := blk_frozen hk2 0; have ql := blk_lt hk2; have HO2 := Lib.hid ho; have HB2 := Lib.hid hb1; clear ho hb1 hg hk2 v0 v1 y0 y1 HG0 HG1 HG2 HO1 HB1)
      go_roundw
      case rel => exact ⟨k + 1, _, by omega, by go_num, Lib.hid ((Below.heap_setCell _ _ _ _ (by show w.heap.size ≠ w.heap.size + 1 + 1; omega)).trans k0.out), Lib.hid ((Below.heap_setCell _ _ _ _ (by show w.heap.size + 1 ≠ w.heap.size + 1 + 1; omega)).trans k1.out), Lib.hid ((blk_set k2.out 0 _).trans rfl), Lib.hid (by rw [HT.out]; exact Kd.R_set HO2.out k2.out (by decide) 0 _), Lib.hid (HB2.out.setCell (by show w.heap.size ≤ w.heap.size + 1 + 1; omega) _)⟩
      case measure => simp [intOf]; omega
    · obtain rfl : k = rs.length := by omega
      rw [List.take_length] at HO
      obtain ⟨z0, z1⟩ := cells2 HG0.out
      obtain ⟨wo, rfl⟩ : ∃ wo : World, wo = wr := ⟨_, rfl⟩
      go_wp2_with fail
      clear z0 z1
      go_loopw [26] (fun i wr => ∃ (k : Nat) (nv : Value), k ≤ ns.length ∧ i = .int .i64 k ∧ Hid (wr.heap[w.heap.size]? = some (.cells #[.slice A0 rs.length c0, .slice A1 ns.length c1] 25 (0, 0))) ∧ Hid (wr.heap[w.heap.size + 1]? = some (.cells #[.slice none 0 0, .slice none 0 0] 48 (0, 0))) ∧
          Hid (wr.heap[w.heap.size + 1 + 1]? = some (.cells #[rv, nv] 48 (0, 0))) ∧ Hid (Kd.R kRule 109 wr w.heap.size (fun _ => True) rv rs) ∧ Hid (Kd.R (Kd.fixed kNode w) 110 wr w.heap.size (fun _ => True) nv (ns.take k)) ∧ Hid (Below w.heap.size w wr)) (fun i _ => ns.length - (intOf i).toNat)
      case atStart => exact ⟨0, .slice none 0 0, Nat.zero_le _, rfl, HG0, HG1, HG2, HO, Lib.hid (Kd.R_nil _ _ _ _ _), HB⟩
      case round =>
        clear HG0 HG1 HG2 HB HO
        obtain ⟨k, nv, hk, rfl, HG0, HG1, HG2, HO, HN, HB⟩ := hrel
        by_cases hlt : k < ns.length
        · obtain ⟨ad, x, A2, c2, had, hx, e0', e1', e2', l2, k2⟩ := at_Node HR1.out k hlt
          have e0 := pw_cell_below HB.out e0'
          have e1 := pw_cell_below HB.out e1'
          have e2 := pw_cell_below HB.out e2'
          have HT := Lib.hid (take_of hx)
          have HM := Lib.hid (kNode_mk w x l2 k2)
          have hbx := below_alloc (Below.refl wr.heap.size wr) (.cells #[.int .i64 x.kind, .string x.name, .slice A2 x.kids.length c2] 57)
          have hgx := blk_new wr (.cells #[.int .i64 x.kind, .string x.name, .slice A2 x.kids.length c2] 57)
          subst had
          clear e0' e1' e2' k2 l2
          go_upto_region 10 with (fail)
          clear e0 e1 e2 hx
          generalize wr.alloc (.cells #[.int .i64 x.kind, .string x.name, .slice A2 x.kids.length c2] 57) = W at *
          have HG0 := Lib.hid (blk_below HG0.out hbx)
          have HG1 := Lib.hid (blk_below HG1.out hbx)
          have HG2 := Lib.hid (blk_below HG2.out hbx)
          have HO1 := Lib.hid (Kd.R_below HO.out hbx)
          have HN1 := Lib.hid (Kd.R_below HN.out hbx)
          have HB1 := Lib.hid (blw HB.out hbx)
          obtain ⟨y0, y1, y2⟩ := cells3 hgx
          obtain ⟨v0, v1⟩ := cells2 HG2.out
          have HL5 : Hid ((ns.take k ++ [x]).length = k + 1) := Lib.hid (by rw [List.length_append, List.length_take, List.length_singleton]; omega)
          have hlen : ((ns.take k).length + 1) * 48 ≤ 140737488355328 := by have := List.length_take_le k ns; omega
          clear hbx hgx HO HB HN
          go_wp2_with (at_builtin; refine Kd.R_append (Kd.fixed kNode w) (w0 := w) w.heap.size rfl (.tmp 31) (.tmp 33) 46 110 _ 48 rfl Try.underlying46 info110 rfl (show 0 < 3 by decide) (by omega) _ (ns.take k) x [.int .i64 x.kind, .string x.name, .slice A2 x.kids.length c2] (fun _ => True) (fun _ => False) rfl rfl HM.out (fun _ hk => hk.elim) (fun _ _ => trivial) HN1.out HB1.out HB1.out.size hlen ?_; intro u w1 ho hb1 hg _; obtain ⟨A5, c5, hv5⟩ := Kd.R_slice ho; rw [HL5.out] at hv5; subst hv5; have k0 := Lib.hid (blk_grown HG0.out hg (Kd.R_ne HN1.out HG0.out (by decide))); have k1 := Lib.hid (blk_grown HG1.out hg (Kd.R_ne HN1.out HG1.out (by decide))); have hk2 := blk_grown HG2.out hg (Kd.R_ne HN1.out HG2.out (by decide)); have k2 := Lib.hid hk2; obtain ⟨q0, q1⟩ := cells2 hk2; have qf := blk_frozen hk2 1; have ql := blk_lt hk2; have HN2 := Lib.hid ho; have HO2 := Lib.hid (Kd.R_over HO1.out HN1.out (by decide) hg); have HB2 := Lib.hid hb1; clear ho hb1 hg hk2 v0 v1 y0 y1 y2 HG0 HG1 HG2 HO1 HB1 HN1)
          go_roundw
          case rel => exact ⟨k + 1, _, by omega, by go_num, Lib.hid ((Below.heap_setCell _ _ _ _ (by show w.heap.size ≠ w.heap.size + 1 + 1; omega)).trans k0.out), Lib.hid ((Below.heap_setCell _ _ _ _ (by show w.heap.size + 1 ≠ w.heap.size + 1 + 1; omega)).trans k1.out), Lib.hid ((blk_set k2.out 1 _).trans rfl), Lib.hid (Kd.R_set HO2.out k2.out (by decide) 1 _), Lib.hid (by rw [HT.out]; exact Kd.R_set HN2.out k2.out (fix_ne w 48 (by decide)) 1 _), Lib.hid (HB2.out.setCell (by show w.heap.size ≤ w.heap.size + 1 + 1; omega) _)⟩
          case measure => simp [intOf]; omega
        · obtain rfl : k = ns.length := by omega
          rw [List.take_length] at HN
          obtain ⟨Ar, cr, hrv⟩ := Kd.R_slice HO.out
          obtain ⟨An, cn, hnv⟩ := Kd.R_slice HN.out
          subst hrv hnv
          obtain ⟨z0, z1⟩ := cells2 HG2.out
          have x1f := blk_frozen HG1.out 0
          have x2f := blk_frozen HG1.out 1
          obtain ⟨x1, x2⟩ := cells2 HG1.out
          have hl1 := blk_lt HG1.out
          obtain ⟨wo, rfl⟩ : ∃ wo : World, wo = wr := ⟨_, rfl⟩
          go_wp2_with fail
          have hgz : ((wo.setCell ⟨w.heap.size + 1, 0, none⟩ (.slice Ar rs.length cr)).setCell ⟨w.heap.size + 1, 1, none⟩ (.slice An ns.length cn)).heap[w.heap.size + 1]? = some (.cells #[.slice Ar rs.length cr, .slice An ns.length cn] 48 (0, 0)) := (blk_set ((blk_set HG1.out 0 _).trans rfl) 1 _).trans rfl
          obtain ⟨t0, t1⟩ := cells2 hgz
          have o1 := Kd.R_set (Kd.R_set HO.out HG1.out (by decide) 0 (.slice Ar rs.length cr)) ((blk_set HG1.out 0 _).trans rfl) (by decide) 1 (.slice An ns.length cn)
          have n1 := Kd.R_set (Kd.R_set HN.out HG1.out (fix_ne w 48 (by decide)) 0 (.slice Ar rs.length cr)) ((blk_set HG1.out 0 _).trans rfl) (fix_ne w 48 (by decide)) 1 (.slice An ns.length cn)
          have b1 := (HB.out.setCell (p := ⟨w.heap.size + 1, 0, none⟩) (by show w.heap.size ≤ w.heap.size + 1; omega) (.slice Ar rs.length cr)).setCell (p := ⟨w.heap.size + 1, 1, none⟩) (by show w.heap.size ≤ w.heap.size + 1; omega) (.slice An ns.length cn)
          exact bodyPost_ret (v := .agg #[.slice Ar rs.length cr, .slice An ns.length cn]) (by simp [results, Try.results23, go_sem, t0, t1]) rfl ⟨Ar, cr, An, cn, rfl, (Kd.R_reads' o1).2.1, (Kd.R_reads' o1).2.2, (Kd.R_reads' n1).2.1, kNode_fix b1 (Kd.R_reads' n1).2.2, b1⟩
end Go.Proofs.Ytoiejgmfgcdniaa
namespace Go.Proofs.Ytoiejgmfgcdniaa
open Go.RowKit Go.Proofs.YtoiejgmfgcdniaaW.PrintWords

/-! ### the references' Same -/
set_option maxHeartbeats 400000 in
theorem same_int (A B : Option Addr) (c d : Nat) (xs ys : List Int) (w : World) (hr : Kd.C (Kd.int .i64) w A xs.length xs) (hs : Kd.C (Kd.int .i64) w B ys.length ys) :
    Calls Try.prog 63 #[.slice A xs.length c, .slice B ys.length d] w fun e w' => e = .returned (.bool (decide (xs = ys))) ∧ Below w.heap.size w w' := by
  have hm := Kd.C_max hr
  have hm2 := Kd.C_max hs
  have HR := Lib.hid hr
  have HS := Lib.hid hs
  clear hr hs
  generalize hres : decide (xs = ys) = res
  have H0 := Lib.hid hres
  clear hres
  by_cases hl : xs.length = ys.length
  · have b0 : ((xs.length : Int) != (ys.length : Int)) = false := by rw [hl]; simp
    have HL := Lib.hid hl
    have hl1 : xs.length ≤ ys.length := by omega
    clear hl
    go_enter Try.func63, Try.ntmps63
    go_wp2_with fail
    go_loopw [5] (fun i wr => ∃ k : Nat, k ≤ xs.length ∧ i = .int .i64 k ∧ Hid (xs.take k = ys.take k) ∧ ∃ n, wr = w.drewN n) (fun i _ => xs.length - (intOf i).toNat)
    case atStart => exact ⟨0, Nat.zero_le _, rfl, Lib.hid rfl, 0, rfl⟩
    case round =>
      obtain ⟨k, hk, rfl, HT, n, rfl⟩ := hrel
      by_cases hlt : k < xs.length
      · obtain ⟨ad, x, rfl, hx, c0⟩ := at_int HR.out k hlt
        obtain ⟨bd, y, rfl, hy, d0⟩ := at_int HS.out k (by omega)
        have HX := Lib.hid hx
        have HY := Lib.hid hy
        clear hx hy
        have i1 : (k : Int) < (ys.length : Int) := by omega
        go_wp2_with fail
        go_quiet (fail)
        cases hp : (x != y)
        · go_wp2_with fail
          go_roundw
          case rel => exact ⟨k + 1, by omega, by go_num, Lib.hid (by rw [take_of HX.out, take_of HY.out, HT.out, bne_eq_false_iff_eq.1 hp]), _, rfl⟩
          case measure => simp [intOf]; omega
        · have HE := Lib.hid (H0.out.symm.trans (decide_eq_false (take_ne HX.out HY.out (bne_iff_ne.1 hp))))
          go_wp2_with fail
          go_ret
          exact ⟨ret_bool HE.out.symm, by first | exact pw_below_drewN (Below.refl _ _) _ | exact pw_below_drewN (pw_below_drewN (Below.refl _ _) _) _⟩
      · have HE : Hid (res = true) := Lib.hid (H0.out.symm.trans (decide_eq_true (by
          have h := HT.out
          have hl := HL.out
          rwa [List.take_of_length_le (by omega), List.take_of_length_le (by omega)] at h)))
        go_wp2_with fail
        go_ret
        exact ⟨ret_bool HE.out.symm, pw_below_drewN (Below.refl _ _) _⟩
  · have b0 : ((xs.length : Int) != (ys.length : Int)) = true := by rw [bne_iff_ne]; omega
    have HE : Hid (res = false) := Lib.hid (H0.out.symm.trans (decide_eq_false (fun h => hl (by rw [h]))))
    go_enter Try.func63, Try.ntmps63
    go_wp2_with fail
    go_ret
    exact ⟨ret_bool HE.out.symm, Below.refl _ _⟩
end Go.Proofs.Ytoiejgmfgcdniaa
namespace Go.Proofs.Ytoiejgmfgcdniaa
open Go.RowKit Go.Proofs.YtoiejgmfgcdniaaW.PrintWords

set_option maxRecDepth 100000 in
theorem neq_rule' (x y : Rule) (w : World) : (binOp .neq 109 (.agg #[.string x.name, .int .i64 x.body]) (.agg #[.string y.name, .int .i64 y.body])).run Try.prog w = .ok (.bool (decide (x ≠ y))) w := by
  rw [run_neq_struct, run_equalIn_agg w _ _ _ _ (by kernel_rfl) Try.stoodInHeld109]
  simp [go_sem]
  obtain ⟨a, n⟩ := x
  obtain ⟨b, m⟩ := y
  simp only [toList_iff, Rule.mk.injEq]
  by_cases h1 : a = b <;> by_cases h2 : n = m <;> simp [h1, h2]
set_option maxRecDepth 100000 in
set_option maxHeartbeats 4000000 in
theorem rsame_any (a b : Tree) (A0 A1 B0 B1 : Option Addr) (c0 c1 d0 d1 : Nat) (w : World) (ha0 : Kd.C kRule w A0 a.rules.length a.rules) (ha1 : Kd.C kNode w A1 a.nodes.length a.nodes) (hb0 : Kd.C kRule w B0 b.rules.length b.rules) (hb1 : Kd.C kNode w B1 b.nodes.length b.nodes) :
    Calls Try.prog 22 #[.agg #[.slice A0 a.rules.length c0, .slice A1 a.nodes.length c1], .agg #[.slice B0 b.rules.length d0, .slice B1 b.nodes.length d1]] w fun e w' => e = .returned (.bool (a.same b)) ∧ Below w.heap.size w w' := by
  have hB := below_alloc (below_alloc (Below.refl w.heap.size w) (.cells #[.slice A0 a.rules.length c0, .slice A1 a.nodes.length c1] 48)) (.cells #[.slice B0 b.rules.length d0, .slice B1 b.nodes.length d1] 48)
  have hg0 := blk_alloc (blk_new w (.cells #[.slice A0 a.rules.length c0, .slice A1 a.nodes.length c1] 48)) (.cells #[.slice B0 b.rules.length d0, .slice B1 b.nodes.length d1] 48)
  have hg1 := blk_new (w.alloc (.cells #[.slice A0 a.rules.length c0, .slice A1 a.nodes.length c1] 48)) (.cells #[.slice B0 b.rules.length d0, .slice B1 b.nodes.length d1] 48)
  rw [size_alloc] at hg1
  have HB := Lib.hid hB
  have HA0 := Lib.hid ha0
  have HA1 := Lib.hid ha1
  have HB0 := Lib.hid hb0
  have HB1 := Lib.hid hb1
  have HG0 := Lib.hid hg0
  have HG1 := Lib.hid hg1
  have hm0 := Kd.C_max ha0
  have hm1 := Kd.C_max ha1
  have hn0 := Kd.C_max hb0
  have hn1 := Kd.C_max hb1
  clear hB ha0 ha1 hb0 hb1 hg0 hg1
  have HQ : Hid (a.same b = (decide (a.rules = b.rules) && decide (a.nodes = b.nodes))) := Lib.hid rfl
  generalize a.same b = res at HQ ⊢
  obtain ⟨ar, an⟩ := a
  obtain ⟨br, bn⟩ := b
  simp only at HA0 HA1 HB0 HB1 HQ hm0 hm1 hn0 hn1 ⊢
  by_cases hl : ar.length = br.length
  · have b0 : ((ar.length : Int) != (br.length : Int)) = false := by rw [hl]; simp
    have HL := Lib.hid hl
    have hl1 : ar.length ≤ br.length := by omega
    clear hl
    by_cases hl : an.length = bn.length
    · have b1 : ((an.length : Int) != (bn.length : Int)) = false := by rw [hl]; simp
      have HLN := Lib.hid hl
      have hl2 : an.length ≤ bn.length := by omega
      clear hl
      go_enter Try.func22, Try.ntmps22
      go_upto_region 1 with (fail)
      generalize (w.alloc (.cells #[.slice A0 ar.length c0, .slice A1 an.length c1] 48)).alloc (.cells #[.slice B0 br.length d0, .slice B1 bn.length d1] 48) = V at *
      obtain ⟨x0, x1⟩ := cells2 HG0.out
      obtain ⟨y0, y1⟩ := cells2 HG1.out
      go_wp2_with fail
      clear x0 x1 y0 y1
      go_loopw [5] (fun i wr => ∃ k : Nat, k ≤ ar.length ∧ i = .int .i64 k ∧ Hid (ar.take k = br.take k) ∧ Hid (Below V.heap.size V wr)) (fun i _ => ar.length - (intOf i).toNat)
      case atStart => exact ⟨0, Nat.zero_le _, rfl, Lib.hid rfl, Lib.hid (Below.refl _ _)⟩
      case round =>
        obtain ⟨k, hk, rfl, HT, HV⟩ := hrel
        obtain ⟨x0, x1⟩ := cells2 (blk_below HG0.out HV.out)
        obtain ⟨y0, y1⟩ := cells2 (blk_below HG1.out HV.out)
        by_cases hlt : k < ar.length
        · obtain ⟨ad, x, hA, hx, u0, u1⟩ := at_Rule (Kd.C_below (Kd.C_below HA0.out HB.out) HV.out) k hlt
          obtain ⟨bd, y, hBq, hy, v0, v1⟩ := at_Rule (Kd.C_below (Kd.C_below HB0.out HB.out) HV.out) k (by omega)
          have HX := Lib.hid hx
          have HY := Lib.hid hy
          have hq := neq_rule' x y
          have i1 : (k : Int) < (br.length : Int) := by omega
          subst hA hBq
          clear hx hy
          by_cases hp : x = y
          · have hE : Hid (ar.take (k + 1) = br.take (k + 1)) := Lib.hid (by rw [take_of HX.out, take_of HY.out, HT.out, hp])
            rw [decide_eq_false (by simpa using hp)] at hq
            clear hp
            go_wp2_with fail
            go_quiet (fail)
            have HV2 := Lib.hid (blw HV.out (pw_below_drewN (Below.refl wr.heap.size wr) nq))
            go_wp2_with fail
            go_roundw
            case rel => exact ⟨k + 1, by omega, by go_num, hE, HV2⟩
            case measure => simp [intOf]; omega
          · have HE : Hid (res = false) := Lib.hid (by rw [HQ.out, decide_eq_false (take_ne HX.out HY.out hp)]; rfl)
            rw [decide_eq_true hp] at hq
            clear hp
            go_wp2_with fail
            go_quiet (fail)
            have HV2 := Lib.hid (blw HB.out (blw HV.out (pw_below_drewN (Below.refl wr.heap.size wr) nq)))
            go_wp2_with fail
            go_ret
            exact ⟨ret_bool HE.out.symm, HV2.out⟩
        · have HE : Hid (res = decide (an = bn)) := Lib.hid (by
            have h := HT.out
            have hl := HL.out
            rw [List.take_of_length_le (by omega), List.take_of_length_le (by omega)] at h
            rw [HQ.out, decide_eq_true h, Bool.true_and])
          clear HQ HT
          obtain ⟨wo, rfl⟩ : ∃ wo : World, wo = wr := ⟨_, rfl⟩
          go_wp2_with fail
          clear x0 x1 y0 y1
          go_loopw [6] (fun i wr => ∃ k : Nat, k ≤ an.length ∧ i = .int .i64 k ∧ Hid (an.take k = bn.take k) ∧ Hid (Below V.heap.size V wr)) (fun i _ => an.length - (intOf i).toNat)
          case atStart => exact ⟨0, Nat.zero_le _, rfl, Lib.hid rfl, HV⟩
          case round =>
            clear HV
            obtain ⟨k, hk, rfl, HT, HV⟩ := hrel
            obtain ⟨x0, x1⟩ := cells2 (blk_below HG0.out HV.out)
            obtain ⟨y0, y1⟩ := cells2 (blk_below HG1.out HV.out)
            by_cases hlt : k < an.length
            · obtain ⟨ad, x, A2, c2, hA, hx, e0, e1, e2, l2, k2⟩ := at_Node (Kd.C_below (Kd.C_below HA1.out HB.out) HV.out) k hlt
              obtain ⟨bd, y, B2, d2, hBq, hy, f0, f1, f2, m2, q2⟩ := at_Node (Kd.C_below (Kd.C_below HB1.out HB.out) HV.out) k (by omega)
              have HX := Lib.hid hx
              have HY := Lib.hid hy
              have i1 : (k : Int) < (bn.length : Int) := by omega
              have HSI := Lib.hid (fun z : Later wr => same_int A2 B2 c2 d2 x.kids y.kids z.val (Kd.C_below k2 z.below) (Kd.C_below q2 z.below))
              subst hA hBq
              clear hx hy k2 q2
              have NE : x ≠ y → Hid (res = false) := fun hp => Lib.hid (by rw [HE.out, decide_eq_false (take_ne HX.out HY.out hp)])
              have YE : x = y → Hid (an.take (k + 1) = bn.take (k + 1)) := fun hp => Lib.hid (by rw [take_of HX.out, take_of HY.out, HT.out, hp])
              by_cases h1 : x.kind = y.kind
              · have b1' : (x.kind != y.kind) = false := by simpa using h1
                cases h2 : (x.name.toList == y.name.toList)
                · have hF := NE (fun e => by rw [e, str_eq, decide_eq_true rfl] at h2; cases h2)
                  clear HE HT NE YE h1
                  go_upto_region 11 with (fail)
                  go_quiet (fail)
                  have HV2 := Lib.hid (blw HB.out (blw HV.out (pw_below_drewN (Below.refl wr.heap.size wr) nq)))
                  go_wp2_with fail
                  go_ret
                  exact ⟨ret_bool hF.out.symm, HV2.out⟩
                · have hnm : x.name = y.name := by rw [str_eq] at h2; exact of_decide_eq_true h2
                  by_cases h3 : x.kids = y.kids
                  · have hE := YE (by obtain ⟨p, q, r⟩ := x; obtain ⟨p', q', r'⟩ := y; simp only at h1 hnm h3; rw [h1, hnm, h3])
                    rw [decide_eq_true h3] at HSI
                    clear HE HT NE YE h1 hnm h3
                    go_upto_region 11 with (fail)
                    have l0 := Later.cell x0
                    have l1 := Later.cell x1
                    have l2' := Later.cell y0
                    have l3 := Later.cell y1
                    have l4 := Later.cell e0
                    have l5 := Later.cell e1
                    have l6 := Later.cell e2
                    have l7 := Later.cell f0
                    have l8 := Later.cell f1
                    have l9 := Later.cell f2
                    refine wp_region_later (by kernel_rfl) (by kernel_rfl) ?_
                    repeat (go_big_quiet_step ((go_at_call 63; exact Later.call _ (HSI.out _))))
                    refine wpQuiet_nil ?_
                    rintro _ ⟨z, rfl⟩
                    have HV2 := Lib.hid (blw HV.out z.below)
                    clear l0 l1 l2' l3 l4 l5 l6 l7 l8 l9
                    go_wp2_with fail
                    go_roundw
                    case rel => exact ⟨k + 1, by omega, by go_num, hE, HV2⟩
                    case measure => simp [intOf]; omega
                  · have hF := NE (fun e => h3 (by rw [e]))
                    rw [decide_eq_false h3] at HSI
                    clear HE HT NE YE h1 hnm h3
                    go_upto_region 11 with (fail)
                    have l0 := Later.cell x0
                    have l1 := Later.cell x1
                    have l2' := Later.cell y0
                    have l3 := Later.cell y1
                    have l4 := Later.cell e0
                    have l5 := Later.cell e1
                    have l6 := Later.cell e2
                    have l7 := Later.cell f0
                    have l8 := Later.cell f1
                    have l9 := Later.cell f2
                    refine wp_region_later (by kernel_rfl) (by kernel_rfl) ?_
                    repeat (go_big_quiet_step ((go_at_call 63; exact Later.call _ (HSI.out _))))
                    refine wpQuiet_nil ?_
                    rintro _ ⟨z, rfl⟩
                    have HV2 := Lib.hid (blw HB.out (blw HV.out z.below))
                    clear l0 l1 l2' l3 l4 l5 l6 l7 l8 l9
                    go_wp2_with fail
                    go_ret
                    exact ⟨ret_bool hF.out.symm, HV2.out⟩
              · have b1' : (x.kind != y.kind) = true := by simpa using h1
                have hF := NE (fun e => h1 (by rw [e]))
                clear HE HT NE YE h1
                go_upto_region 11 with (fail)
                go_quiet (fail)
                have HV2 := Lib.hid (blw HB.out (blw HV.out (pw_below_drewN (Below.refl wr.heap.size wr) nq)))
                go_wp2_with fail
                go_ret
                exact ⟨ret_bool hF.out.symm, HV2.out⟩
            · have HR : Hid (res = true) := Lib.hid (by
                have h := HT.out
                have hl := HLN.out
                rw [List.take_of_length_le (by omega), List.take_of_length_le (by omega)] at h
                rw [HE.out, decide_eq_true h])
              clear HE HT
              go_wp2_with fail
              go_ret
              exact ⟨ret_bool HR.out.symm, blw HB.out HV.out⟩
    · have b1 : ((an.length : Int) != (bn.length : Int)) = true := by rw [bne_iff_ne]; omega
      have HE : Hid (res = false) := Lib.hid (by rw [HQ.out, decide_eq_false (p := an = bn) (fun h => hl (by rw [h])), Bool.and_false])
      clear hl
      go_enter Try.func22, Try.ntmps22
      go_wp2_with fail
      go_ret
      exact ⟨ret_bool HE.out.symm, HB.out⟩
  · have b1 : ((ar.length : Int) != (br.length : Int)) = true := by rw [bne_iff_ne]; omega
    have HE : Hid (res = false) := Lib.hid (by rw [HQ.out, decide_eq_false (p := ar = br) (fun h => hl (by rw [h])), Bool.false_and])
    clear hl
    go_enter Try.func22, Try.ntmps22
    go_wp2_with fail
    go_ret
    exact ⟨ret_bool HE.out.symm, HB.out⟩
end Go.Proofs.Ytoiejgmfgcdniaa
