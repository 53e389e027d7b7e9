import Derived.Test.YtoiejgmfgcdniaaLower10
set_option linter.unusedVariables false
set_option linter.unusedSimpArgs false
namespace Go.Proofs.Ytoiejgmfgcdniaa
open Go.RowKit Go.Proofs.YtoiejgmfgcdniaaW.PrintWords

/-! ### Large -/
def largeR (r : Rule) : Bool := decide (100 < r.name.size)
def largeN (n : Node) : Bool := decide (100 < n.name.size) || decide (210 < n.kids.length)
def largeB (t : Tree) : Bool := (decide (30 < t.rules.length) || decide (210 < t.nodes.length)) || (t.rules.any largeR || t.nodes.any largeN)
set_option maxRecDepth 100000 in
set_option maxHeartbeats 1000000 in
theorem large_any (t : Tree) (A0 : Option Addr) (c0 : Nat) (A1 : Option Addr) (c1 : Nat) (w : World) (hr0 : Kd.C kRule w A0 t.rules.length t.rules) (hr1 : Kd.C kNode w A1 t.nodes.length t.nodes) :
    Calls Try.prog 14 #[.agg #[.slice A0 t.rules.length c0, .slice A1 t.nodes.length c1]] w fun e w' => e = .returned (.bool (largeB t)) ∧ Below w.heap.size w w' := by
  have HR := Lib.hid hr0
  have HS := Lib.hid hr1
  have hm0 := Kd.C_max hr0
  have hm1 := Kd.C_max hr1
  have HB := Lib.hid (fun o => below_alloc (Below.refl w.heap.size w) o)
  clear hr0 hr1
  have hq : Hid (largeB t = ((decide (30 < t.rules.length) || decide (210 < t.nodes.length)) || (t.rules.any largeR || t.nodes.any largeN))) := Lib.hid rfl
  generalize largeB t = res at hq ⊢
  obtain ⟨rs, ns⟩ := t
  simp only at hm0 hm1 hq HR HS ⊢
  by_cases h1 : 30 < rs.length
  · have hres : Hid (res = true) := Lib.hid (by rw [hq.out]; simp [h1])
    go_enter Try.func14, Try.ntmps14
    go_wp2_with fail
    go_ret
    exact ⟨ret_bool hres.out.symm, HB.out _⟩
  by_cases h2 : 210 < ns.length
  · have hres : Hid (res = true) := Lib.hid (by rw [hq.out]; simp [h2])
    go_enter Try.func14, Try.ntmps14
    go_wp2_with fail
    go_ret
    exact ⟨ret_bool hres.out.symm, HB.out _⟩
  have hres : Hid (res = (rs.any largeR || ns.any largeN)) := Lib.hid (by rw [hq.out, decide_eq_false h1, decide_eq_false h2]; rfl)
  clear hq
  go_enter Try.func14, Try.ntmps14
  go_wp2_with fail
  have hg := blk_new w (.cells #[.slice A0 rs.length c0, .slice A1 ns.length c1] 25)
  have hb := HB.out (.cells #[.slice A0 rs.length c0, .slice A1 ns.length c1] 25)
  generalize w.alloc (.cells #[.slice A0 rs.length c0, .slice A1 ns.length c1] 25) = W at *
  have HG := Lib.hid hg
  have HBW := Lib.hid hb
  clear hg hb
  go_loopw [20] (fun i wr => ∃ k : Nat, k ≤ rs.length ∧ i = .int .i64 k ∧ Hid (res = ((rs.drop k).any largeR || ns.any largeN)) ∧ Hid (Below W.heap.size W wr)) (fun i _ => rs.length - (intOf i).toNat)
  case atStart => exact ⟨0, Nat.zero_le _, rfl, hres, Below.refl _ _⟩
  case round =>
    clear hres
    obtain ⟨k, hk, rfl, HQ, HBR⟩ := hrel
    have HG1 := Lib.hid (blk_below HG.out HBR.out)
    have HB1 := Lib.hid (blw HBW.out HBR.out)
    by_cases hlt : k < rs.length
    · obtain ⟨ad, x, rfl, hx, e0, e1⟩ := at_Rule (Kd.C_below HR.out HB1.out) k hlt
      have HX := Lib.hid (drop_of hx)
      clear hx
      by_cases hn : 100 < x.name.size
      · have hres : Hid (res = true) := Lib.hid (by rw [HQ.out, HX.out, List.any_cons]; simp [largeR, hn])
        go_wp2_with fail
        go_ret
        exact ⟨ret_bool hres.out.symm, blw HB1.out (below_alloc (Below.refl _ _) _)⟩
      · have hres : Hid (res = ((rs.drop (k + 1)).any largeR || ns.any largeN)) := Lib.hid (by rw [HQ.out, HX.out, List.any_cons]; simp [largeR, hn])
        go_wp2_with fail
        go_roundw
        case rel => exact ⟨k + 1, by omega, by go_num, hres, Lib.hid (blw HBR.out (below_alloc (Below.refl _ _) _))⟩
        case measure => simp [intOf]; omega
    · have hres : Hid (res = ns.any largeN) := Lib.hid (by rw [HQ.out, List.drop_eq_nil_of_le (by omega)]; rfl)
      clear HQ
      obtain ⟨e0, e1⟩ := cells2 HG1.out
      obtain ⟨w1, rfl⟩ : ∃ w1 : World, w1 = wr := ⟨_, rfl⟩
      go_wp2_with fail
      clear e0 e1
      go_loopw [32] (fun i wr => ∃ k : Nat, k ≤ ns.length ∧ i = .int .i64 k ∧ Hid (res = (ns.drop k).any largeN) ∧ Hid (Below W.heap.size W wr)) (fun i _ => ns.length - (intOf i).toNat)
      case atStart => exact ⟨0, Nat.zero_le _, rfl, hres, HBR⟩
      case round =>
        clear hres HBR HG1 HB1
        obtain ⟨j, hj, rfl, HQ, HBR⟩ := hrel
        have HB1 := Lib.hid (blw HBW.out HBR.out)
        by_cases hlt : j < ns.length
        · obtain ⟨ad, x, A2, c2, rfl, hx, e0, e1, e2, l2, k2⟩ := at_Node (Kd.C_below HS.out HB1.out) j hlt
          have HX := Lib.hid (drop_of hx)
          have hkm := Kd.C_max k2
          clear hx k2
          by_cases hn : 100 < x.name.size
          · have hres : Hid (res = true) := Lib.hid (by rw [HQ.out, HX.out, List.any_cons]; simp [largeN, hn])
            go_wp2_with fail
            go_ret
            exact ⟨ret_bool hres.out.symm, blw HB1.out (below_alloc (Below.refl _ _) _)⟩
          by_cases hm : 210 < x.kids.length
          · have hres : Hid (res = true) := Lib.hid (by rw [HQ.out, HX.out, List.any_cons]; simp [largeN, hm])
            go_wp2_with fail
            go_ret
            exact ⟨ret_bool hres.out.symm, blw HB1.out (below_alloc (Below.refl _ _) _)⟩
          · have hres : Hid (res = (ns.drop (j + 1)).any largeN) := Lib.hid (by rw [HQ.out, HX.out, List.any_cons]; simp [largeN, hn, hm])
            go_wp2_with fail
            go_roundw
            case rel => exact ⟨j + 1, by omega, by go_num, hres, Lib.hid (blw HBR.out (below_alloc (Below.refl _ _) _))⟩
            case measure => simp [intOf]; omega
        · have hres : Hid (res = false) := Lib.hid (by rw [HQ.out, List.drop_eq_nil_of_le (by omega)]; rfl)
          go_wp2_with fail
          go_ret
          exact ⟨ret_bool hres.out.symm, HB1.out⟩

/-! ### Of -/
def ofL (non : Int) : Nat → List Prod → List Int
  | _, [] => []
  | i, p :: ps => if p.left = non then (i : Int) :: ofL non (i + 1) ps else ofL non (i + 1) ps
theorem ofL_append (non : Int) : ∀ (ps qs : List Prod) (i : Nat), ofL non i (ps ++ qs) = ofL non i ps ++ ofL non (i + ps.length) qs := by
  intro ps
  induction ps with
  | nil => intro qs i; rfl
  | cons p ps ih =>
    intro qs i
    simp only [List.cons_append, ofL, ih, List.length_cons]
    rw [show i + 1 + ps.length = i + (ps.length + 1) by omega]
    split <;> rfl
theorem ofL_len (non : Int) : ∀ (ps : List Prod) (i : Nat), (ofL non i ps).length ≤ ps.length := by
  intro ps
  induction ps with
  | nil => intro i; exact Nat.le_refl _
  | cons p ps ih =>
    intro i
    have := ih (i + 1)
    unfold ofL
    split <;> simp <;> omega
def OfPost (l : List Int) (w : World) (e : Ending) (w' : World) : Prop := ∃ v, e = .returned v ∧ Kd.R (Kd.int .i64) 3 w' w.heap.size (fun _ => True) v l ∧ Below w.heap.size w w'
set_option maxRecDepth 100000 in
set_option maxHeartbeats 1000000 in
theorem of_any (g : Gram) (A : Option Addr) (c : Nat) (non : Int) (w : World) (hr : Kd.C kProd w A g.prods.length g.prods) (hn : g.prods.length ≤ 1000000) :
    Calls Try.prog 18 #[.agg #[.int .i64 g.terms, .int .i64 g.nons, .int .i64 g.start, .slice A g.prods.length c], .int .i64 non] w (OfPost (ofL non 0 g.prods) w) := by
  have HR := Lib.hid hr
  clear hr
  obtain ⟨tm, nn, st, ps⟩ := g
  simp only at hn HR ⊢
  go_enter Try.func18, Try.ntmps18
  go_wp2_with fail
  have hb := below_alloc (Below.refl w.heap.size w) (.cells #[.int .i64 tm, .int .i64 nn, .int .i64 st, .slice A ps.length c] 30)
  generalize w.alloc (.cells #[.int .i64 tm, .int .i64 nn, .int .i64 st, .slice A ps.length c] 30) = W at *
  have HBW := Lib.hid hb
  clear hb
  go_loopw [5, 11] (fun v i wr => ∃ k : Nat, k ≤ ps.length ∧ i = .int .i64 k ∧ Hid (Kd.R (Kd.int .i64) 3 wr w.heap.size (fun _ => True) v (ofL non 0 (ps.take k))) ∧ Hid (Below w.heap.size w wr)) (fun _ i _ => ps.length - (intOf i).toNat)
  case atStart => exact ⟨0, Nat.zero_le _, rfl, Lib.hid (Kd.R_nil _ _ _ _ _), HBW⟩
  case round =>
    obtain ⟨k, hk, rfl, HO, HB⟩ := hrel
    by_cases hlt : k < ps.length
    · obtain ⟨ad, x, A2, c2, rfl, hx, e0, e1, l2, k2⟩ := at_Prod (Kd.C_below HR.out HB.out) k hlt
      have HT := Lib.hid (take_of hx)
      have hol := ofL_len non (ps.take k) 0
      rw [List.length_take] at hol
      have HOL := Lib.hid hol
      have HO1 := Lib.hid (Kd.R_alloc HO.out (.cells #[.int .i64 x.left, .slice A2 x.right.length c2] 39))
      have hB1 := blw HB.out (below_alloc (Below.refl wr.heap.size wr) (.cells #[.int .i64 x.left, .slice A2 x.right.length c2] 39))
      have HB1 := Lib.hid hB1
      clear hx k2 hol hB1
      by_cases hl : x.left = non
      · have bl : (x.left == non) = true := beq_iff_eq.2 hl
        have hof : Hid (ofL non 0 (ps.take (k + 1)) = ofL non 0 (ps.take k) ++ [(k : Int)]) := Lib.hid (by rw [HT.out, ofL_append]; simp [ofL, hl]; omega)
        clear hl
        go_upto_region 6 with (fail)
        clear e0 e1
        generalize wr.alloc (.cells #[.int .i64 x.left, .slice A2 x.right.length c2] 39) = W2 at *
        go_wp2_with (at_builtin; refine Kd.R_append (Kd.int .i64) (w0 := w) w.heap.size rfl (.tmp 20) (.tmp 22) 36 3 _ 8 rfl Try.underlying36 info3 rfl (by decide) (by omega) _ (ofL non 0 (ps.take k)) (k : Int) [.int .i64 k] (fun _ => True) (fun _ => False) rfl rfl rfl (fun _ hk => hk.elim) (fun _ _ => trivial) HO1.out HB1.out HB1.out.size (by have := HOL.out; omega) ?_; intro v1 w1 ho hb1 hg _; have HO2 := Lib.hid ho; have HB2 := Lib.hid hb1; clear ho hb1 hg HO1 HB1)
        go_roundw
        case rel => exact ⟨k + 1, by omega, by go_num, by rw [hof.out]; exact HO2, HB2⟩
        case measure => simp [intOf]; omega
      · have bl : (x.left == non) = false := beq_eq_false_iff_ne.2 hl
        have hof : Hid (ofL non 0 (ps.take (k + 1)) = ofL non 0 (ps.take k)) := Lib.hid (by rw [HT.out, ofL_append]; simp [ofL, hl])
        clear hl
        go_wp2_with fail
        go_roundw
        case rel => exact ⟨k + 1, by omega, by go_num, by rw [hof.out]; exact HO1, HB1⟩
        case measure => simp [intOf]; omega
    · have HE : Hid (ps.take k = ps) := Lib.hid (List.take_of_length_le (by omega))
      go_wp2_with fail
      go_ret
      exact ⟨_, rfl, by have := HO.out; rwa [HE.out] at this, HB.out⟩
end Go.Proofs.Ytoiejgmfgcdniaa
