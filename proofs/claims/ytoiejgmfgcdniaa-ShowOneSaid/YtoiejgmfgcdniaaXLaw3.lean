import Derived.Test.YtoiejgmfgcdniaaXLower10
set_option linter.unusedVariables false
set_option linter.unusedSimpArgs false
namespace Go.Proofs.Ytoiejgmfgcdniaa
open Go.RowKit Go.Proofs.YtoiejgmfgcdniaaW.PrintWords

/-! ### Large -/
def largeR (r : Rule) : Bool := decide (100 < r.name.size)
def largeN (n : Node) : Bool := decide (100 < n.name.size) || decide (210 < n.kids.length)
def largeB (t : Tree) : Bool := (decide (30 < t.rules.length) || decide (210 < t.nodes.length)) || (t.rules.any largeR || t.nodes.any largeN)
set_option maxRecDepth 100000 in
set_option maxHeartbeats 1000000 in
theorem large_any (t : Tree) (A0 : Option Addr) (c0 : Nat) (A1 : Option Addr) (c1 : Nat) (w : World) (hr0 : Kd.C kRule w A0 t.rules.length t.rules) (hr1 : Kd.C kNode w A1 t.nodes.length t.nodes) :
    Calls Try.prog 14 #[.agg #[.slice A0 t.rules.length c0, .slice A1 t.nodes.length c1]] w fun e w' => e = .returned (.bool (largeB t)) ∧ Below w.heap.size w w' := by
  have HR := Lib.hid hr0
  have HS := Lib.hid hr1
  have hm0 := Kd.C_max hr0
  have hm1 := Kd.C_max hr1
  have HB := Lib.hid (fun o => below_alloc (Below.refl w.heap.size w) o)
  clear hr0 hr1
  have hq : Hid (largeB t = ((decide (30 < t.rules.length) || decide (210 < t.nodes.length)) || (t.rules.any largeR || t.nodes.any largeN))) := Lib.hid rfl
  generalize largeB t = res at hq ⊢
  obtain ⟨rs, ns⟩ := t
  simp only at hm0 hm1 hq HR HS ⊢
  by_cases h1 : 30 < rs.length
  · have hres : Hid (res = true) := Lib.hid (by rw [hq.out]; simp [h1])
    go_enter Try.func14, Try.ntmps14
    go_wp2_with fail
    go_ret
    exact ⟨ret_bool hres.out.symm, HB.out _⟩
  by_cases h2 : 210 < ns.length
  · have hres : Hid (res = true) := Lib.hid (by rw [hq.out]; simp [h2])
    go_enter Try.func14, Try.ntmps14
    go_wp2_with fail
    go_ret
    exact ⟨ret_bool hres.out.symm, HB.out _⟩
  have hres : Hid (res = (rs.any largeR || ns.any largeN)) := Lib.hid (by rw [hq.out, decide_eq_false h1, decide_eq_false h2]; rfl)
  clear hq
  go_enter Try.func14, Try.ntmps14
  go_wp2_with fail
  have hg := blk_new w (.cells #[.slice A0 rs.length c0, .slice A1 ns.length c1] 25)
  have hb := HB.out (.cells #[.slice A0 rs.length c0, .slice A1 ns.length c1] 25)
  generalize w.alloc (.cells #[.slice A0 rs.length c0, .slice A1 ns.length c1] 25) = W at *
  have HG := Lib.hid hg
  have HBW := Lib.hid hb
  clear hg hb
  go_loopw [20] (fun i wr => ∃ k : Nat, k ≤ rs.length ∧ i = .int .i64 k ∧ Hid (res = ((rs.drop k).any largeR || ns.any largeN)) ∧ Hid (Below W.heap.size W wr)) (fun i _ => rs.length - (intOf i).toNat)
  case atStart => exact ⟨0, Nat.zero_le _, rfl, hres, Below.refl _ _⟩
  case round =>
    clear hres
    obtain ⟨k, hk, rfl, HQ, HBR⟩ := hrel
    have HG1 := Lib.hid (blk_below HG.out HBR.out)
    have HB1 := Lib.hid (blw HBW.out HBR.out)
    by_cases hlt : k < rs.length
    · obtain ⟨ad, x, rfl, hx, e0, e1⟩ := at_Rule (Kd.C_below HR.out HB1.out) k hlt
      have HX := Lib.hid (drop_of hx)
      clear hx
      by_cases hn : 100 < x.name.size
      · have hres : Hid (res = true) := Lib.hid (by rw [HQ.out, HX.out, List.any_cons]; simp [largeR, hn])
        go_wp2_with fail
        go_ret
        exact ⟨ret_bool hres.out.symm, blw HB1.out (below_alloc (Below.refl _ _) _)⟩
      · have hres : Hid (res = ((rs.drop (k + 1)).any largeR || ns.any largeN)) := Lib.hid (by rw [HQ.out, HX.out, List.any_cons]; simp [largeR, hn])
        go_wp2_with fail
        go_roundw
        case rel => exact ⟨k + 1, by omega, by go_num, hres, Lib.hid (blw HBR.out (below_alloc (Below.refl _ _) _))⟩
        case measure => simp [intOf]; omega
    · have hres : Hid (res = ns.any largeN) := Lib.hid (by rw [HQ.out, List.drop_eq_nil_of_le (by omega)]; rfl)
      clear HQ
      obtain ⟨e0, e1⟩ := cells2 HG1.out
      obtain ⟨w1, rfl⟩ : ∃ w1 : World, w1 = wr := ⟨_, rfl⟩
      go_wp2_with fail
      clear e0 e1
      go_loopw [32] (fun i wr => ∃ k : Nat, k ≤ ns.length ∧ i = .int .i64 k ∧ Hid (res = (ns.drop k).any largeN) ∧ Hid (Below W.heap.size W wr)) (fun i _ => ns.length - (intOf i).toNat)
      case atStart => exact ⟨0, Nat.zero_le _, rfl, hres, HBR⟩
      case round =>
        clear hres HBR HG1 HB1
        obtain ⟨j, hj, rfl, HQ, HBR⟩ := hrel
        have HB1 := Lib.hid (blw HBW.out HBR.out)
        by_cases hlt : j < ns.length
        · obtain ⟨ad, x, A2, c2, rfl, hx, e0, e1, e2, l2, k2⟩ := at_Node (Kd.C_below HS.out HB1.out) j hlt
          have HX := Lib.hid (drop_of hx)
          have hkm := Kd.C_max k2
          clear hx k2
          by_cases hn : 100 < x.name.size
          · have hres : Hid (res = true) := Lib.hid (by rw [HQ.out, HX.out, List.any_cons]; simp [largeN, hn])
            go_wp2_with fail
            go_ret
            exact ⟨ret_bool hres.out.symm, blw HB1.out (below_alloc (Below.refl _ _) _)⟩
          by_cases hm : 210 < x.kids.length
          · have hres : Hid (res = true) := Lib.hid (by rw [HQ.out, HX.out, List.any_cons]; simp [largeN, hm])
            go_wp2_with fail
            go_ret
            exact ⟨ret_bool hres.out.symm, blw HB1.out (below_alloc (Below.refl _ _) _)⟩
          · have hres : Hid (res = (ns.drop (j + 1)).any largeN) := Lib.hid (by rw [HQ.out, HX.out, List.any_cons]; simp [largeN, hn, hm])
            go_wp2_with fail
            go_roundw
            case rel => exact ⟨j + 1, by omega, by go_num, hres, Lib.hid (blw HBR.out (below_alloc (Below.refl _ _) _))⟩
            case measure => simp [intOf]; omega
        · have hres : Hid (res = false) := Lib.hid (by rw [HQ.out, List.drop_eq_nil_of_le (by omega)]; rfl)
          go_wp2_with fail
          go_ret
          exact ⟨ret_bool hres.out.symm, HB1.out⟩

/-! ### Of -/
def ofL (non : Int) : Nat → List Prod → List Int
  | _, [] => []
  | i, p :: ps => if p.left = non then (i : Int) :: ofL non (i + 1) ps else ofL non (i + 1) ps
theorem ofL_append (non : Int) : ∀ (ps qs : List Prod) (i : Nat), ofL non i (ps ++ qs) = ofL non i ps ++ ofL non (i + ps.length) qs := by
  intro ps
  induction ps with
  | nil => intro qs i; rfl
  | cons p ps ih =>
    intro qs i
    simp only [List.cons_append, ofL, ih, List.length_cons]
    rw [show i + 1 + ps.length = i + (ps.length + 1) by omega]
    split <;> rfl
theorem ofL_len (non : Int) : ∀ (ps : List Prod) (i : Nat), (ofL non i ps).length ≤ ps.length := by
  intro ps
  induction ps with
  | nil => intro i; exact Nat.le_refl _
  | cons p ps ih =>
    intro i
    have := ih (i + 1)
    unfold ofL
    split <;> simp <;> omega
def OfPost (l : List Int) (w : World) (e : Ending) (w' : World) : Prop := ∃ v, e = .returned v ∧ Kd.R (Kd.int .i64) 3 w' w.heap.size (fun _ => True) v l ∧ Below w.heap.size w w'
set_option maxRecDepth 100000 in
set_option maxHeartbeats 1000000 in
theorem of_any (g : Gram) (A : Option Addr) (c : Nat) (non : Int) (w : World) (hr : Kd.C kProd w A g.prods.length g.prods) (hn : g.prods.length ≤ 1000000) :
    Calls Try.prog 18 #[.agg #[.int .i64 g.terms, .int .i64 g.nons, .int .i64 g.start, .slice A g.prods.length c], .int .i64 non] w (OfPost (ofL non 0 g.prods) w) := by
  have HR := Lib.hid hr
  clear hr
  obtain ⟨tm, nn, st, ps⟩ := g
  simp only at hn HR ⊢
  go_enter Try.func18, Try.ntmps18
  go_wp2_with fail
  have hb := below_alloc (Below.refl w.heap.size w) (.cells #[.int .i64 tm, .int .i64 nn, .int .i64 st, .slice A ps.length c] 30)
  generalize w.alloc (.cells #[.int .i64 tm, .int .i64 nn, .int .i64 st, .slice A ps.length c] 30) = W at *
  have HBW := Lib.hid hb
  clear hb
  go_loopw [5, 11] (fun v i wr => ∃ k : Nat, k ≤ ps.length ∧ i = .int .i64 k ∧ Hid (Kd.R (Kd.int .i64) 3 wr w.heap.size (fun _ => True) v (ofL non 0 (ps.take k))) ∧ Hid (Below w.heap.size w wr)) (fun _ i _ => ps.length - (intOf i).toNat)
  case atStart => exact ⟨0, Nat.zero_le _, rfl, Lib.hid (Kd.R_nil _ _ _ _ _), HBW⟩
  case round =>
    obtain ⟨k, hk, rfl, HO, HB⟩ := hrel
    by_cases hlt : k < ps.length
    · obtain ⟨ad, x, A2, c2, rfl, hx, e0, e1, l2, k2⟩ := at_Prod (Kd.C_below HR.out HB.out) k hlt
      have HT := Lib.hid (take_of hx)
      have hol := ofL_len non (ps.take k) 0
      rw [List.length_take] at hol
      have HOL := Lib.hid hol
      have HO1 := Lib.hid (Kd.R_alloc HO.out (.cells #[.int .i64 x.left, .slice A2 x.right.length c2] 39))
      have hB1 := blw HB.out (below_alloc (Below.refl wr.heap.size wr) (.cells #[.int .i64 x.left, .slice A2 x.right.length c2] 39))
      have HB1 := Lib.hid hB1
      clear hx k2 hol hB1
      by_cases hl : x.left = non
      · have bl : (x.left == non) = true := beq_iff_eq.2 hl
        have hof : Hid (ofL non 0 (ps.take (k + 1)) = ofL non 0 (ps.take k) ++ [(k : Int)]) := Lib.hid (by rw [HT.out, ofL_append]; simp [ofL, hl]; omega)
        clear hl
        go_upto_region 6 with (fail)
        clear e0 e1
        generalize wr.alloc (.cells #[.int .i64 x.left, .slice A2 x.right.length c2] 39) = W2 at *
        go_wp2_with (at_builtin; refine Kd.R_append (Kd.int .i64) (w0 := w) w.heap.size rfl (.tmp 20) (.tmp 22) 36 3 _ 8 rfl Try.underlying36 info3 rfl (by decide) (by omega) _ (ofL non 0 (ps.take k)) (k : Int) [.int .i64 k] (fun _ => True) (fun _ => False) rfl rfl rfl (fun _ hk => hk.elim) (fun _ _ => trivial) HO1.out HB1.out HB1.out.size (by have := HOL.out; omega) ?_; intro v1 w1 ho hb1 hg _; have HO2 := Lib.hid ho; have HB2 := Lib.hid hb1; clear ho hb1 hg HO1 HB1)
        go_roundw
        case rel => exact ⟨k + 1, by omega, by go_num, by rw [hof.out]; exact HO2, HB2⟩
        case measure => simp [intOf]; omega
      · have bl : (x.left == non) = false := beq_eq_false_iff_ne.2 hl
        have hof : Hid (ofL non 0 (ps.take (k + 1)) = ofL non 0 (ps.take k)) := Lib.hid (by rw [HT.out, ofL_append]; simp [ofL, hl])
        clear hl
        go_wp2_with fail
        go_roundw
        case rel => exact ⟨k + 1, by omega, by go_num, by rw [hof.out]; exact HO1, HB1⟩
        case measure => simp [intOf]; omega
    · have HE : Hid (ps.take k = ps) := Lib.hid (List.take_of_length_le (by omega))
      go_wp2_with fail
      go_ret
      exact ⟨_, rfl, by have := HO.out; rwa [HE.out] at this, HB.out⟩
end Go.Proofs.Ytoiejgmfgcdniaa
namespace Go.Proofs.Ytoiejgmfgcdniaa
open Go.RowKit Go.Proofs.YtoiejgmfgcdniaaW.PrintWords

/-! ### LowerShape: its short ways -/
def TrueBelow (w : World) (e : Ending) (w' : World) : Prop := e = .returned (.bool true) ∧ Below w.heap.size w w'
def AwakeSaid (F : Nat) : Prop := ∀ w, Calls Try.prog F #[] w (TrueBelow w)
theorem LowerPost.open_ {g : Gram} {l : List ByteArray} {n : Int} {w : World} {e : Ending} {w' : World} (h : LowerPost (g, l, n) w e w') :
    ∃ Ap cp Av cv, e = .returned (.tuple #[.agg #[.int .i64 g.terms, .int .i64 g.nons, .int .i64 g.start, .slice Ap g.prods.length cp], .slice Av l.length cv, .int .i64 n]) ∧ g.prods.length ≤ cp ∧ Kd.C kProd w' Ap g.prods.length g.prods ∧ Kd.C Kd.string w' Av l.length l ∧ l.length ≤ cv ∧ Below w.heap.size w w' := by
  obtain ⟨pv, nv, rfl, h1, h2, h3⟩ := h
  obtain ⟨Ap, cp, rfl, a1, a2⟩ := Kd.R_reads h1
  obtain ⟨Av, cv, rfl, b1, b2⟩ := Kd.R_reads h2
  exact ⟨Ap, cp, Av, cv, rfl, a1, a2, b2, b1, h3⟩
section
variable (t : Tree) (A0 : Option Addr) (c0 : Nat) (A1 : Option Addr) (c1 : Nat) (w : World)
theorem TreeRow.of_large {t : Tree} {w : World} {A0 : Option Addr} {c0 : Nat} {A1 : Option Addr} {c1 : Nat} (hr0 : Kd.C kRule w A0 t.rules.length t.rules) (hl0 : t.rules.length ≤ c0) (hr1 : Kd.C kNode w A1 t.nodes.length t.nodes) (hl1 : t.nodes.length ≤ c1) (h : largeB t = false) : TreeRow w t A0 c0 A1 c1 := by
  unfold largeB at h
  simp only [Bool.or_eq_false_iff, List.any_eq_false] at h
  obtain ⟨_, h1, h2⟩ := h
  refine ⟨hr0, hl0, hr1, hl1, fun r hr => ?_, fun n hn => ?_⟩
  · have := h1 r hr; simp [largeR] at this; omega
  · have := h2 n hn; simp [largeN] at this; omega
set_option maxRecDepth 100000 in
set_option maxHeartbeats 1000000 in
theorem shape_large (haw : AwakeSaid 13) (hr0 : Kd.C kRule w A0 t.rules.length t.rules) (hr1 : Kd.C kNode w A1 t.nodes.length t.nodes) (h : largeB t = true) :
    Calls Try.prog 3 #[.agg #[.slice A0 t.rules.length c0, .slice A1 t.nodes.length c1]] w (TrueBelow w) := by
  have HR := Lib.hid hr0
  have HS := Lib.hid hr1
  have HL := Lib.hid h
  have HA := Lib.hid haw
  clear hr0 hr1 h haw
  go_enter Try.func3, Try.ntmps3
  go_wp2_with fail
  refine (HA.out _).mono ?_
  rintro e w1 ⟨rfl, hb1⟩
  obtain ⟨hg1, hb2, _⟩ := bel1 hb1
  have HB1 := Lib.hid hb2
  obtain ⟨e0, e1⟩ := cells2 hg1
  clear hb1 hb2
  go_wp2_with fail
  refine (large_any t A0 c0 A1 c1 w1 (Kd.C_below HR.out HB1.out) (Kd.C_below HS.out HB1.out)).mono ?_
  rintro e w2 ⟨rfl, hb2⟩
  rw [HL.out]
  have HB2 := Lib.hid (blw HB1.out hb2)
  clear hb2
  go_wp2_with fail
  go_ret
  exact ⟨rfl, HB2.out⟩
set_option maxRecDepth 100000 in
set_option maxHeartbeats 2000000 in
theorem shape_error (haw : AwakeSaid 13) (ht : TreeRow w t A0 c0 A1 c1) (h : largeB t = false) (n : Int) (hlow : lowerP t = (⟨0, 0, 0, []⟩, [], n)) (hn : n = 1 ∧ t.right = false ∨ n = 5 ∧ t.right = true) :
    Calls Try.prog 3 #[.agg #[.slice A0 t.rules.length c0, .slice A1 t.nodes.length c1]] w (TrueBelow w) := by
  have HT := Lib.hid ht
  have HL := Lib.hid h
  have HA := Lib.hid haw
  have HW := Lib.hid hlow
  have hn0 : (n != 0) = true := by rcases hn with ⟨rfl, _⟩ | ⟨rfl, _⟩ <;> rfl
  have hres : Hid (((n == 1) == !t.right) = true) := Lib.hid (by rcases hn with ⟨rfl, h⟩ | ⟨rfl, h⟩ <;> rw [h] <;> rfl)
  clear ht h haw hlow hn
  go_enter Try.func3, Try.ntmps3
  go_wp2_with fail
  refine (HA.out _).mono ?_
  rintro e w1 ⟨rfl, hb1⟩
  obtain ⟨hg1, hb2, _⟩ := bel1 hb1
  have HB1 := Lib.hid hb2
  have HG1 := Lib.hid hg1
  obtain ⟨e0, e1⟩ := cells2 hg1
  clear hb1 hb2 hg1
  go_wp2_with fail
  refine (large_any t A0 c0 A1 c1 w1 (HT.out.below HB1.out).r0 (HT.out.below HB1.out).r1).mono ?_
  rintro e w2 ⟨rfl, hb2⟩
  rw [HL.out]
  have HB2 := Lib.hid (blw HB1.out hb2)
  have HG2 := Lib.hid (blk_below HG1.out hb2)
  clear hb2 e0 e1
  obtain ⟨e0, e1⟩ := cells2 HG2.out
  go_wp2_with fail
  refine (lower_any t A0 c0 A1 c1 w2 (HT.out.below HB2.out)).mono ?_
  intro e w3 hp
  rw [HW.out] at hp
  obtain ⟨Ap, cp, Av, cv, rfl, _, _, _, _, hb3⟩ := hp.open_
  have HB3 := Lib.hid (blw HB2.out hb3)
  have HG3 := Lib.hid (blk_below HG2.out hb3)
  clear hp hb3 e0 e1
  obtain ⟨e0, e1⟩ := cells2 HG3.out
  have q0 := cell1 e0
  have q1 := cell1 e1
  go_wp2_with fail
  refine (right_any t A0 c0 A1 c1 _ (HT.out.below (blw HB3.out (below_alloc (Below.refl _ _) _))).r0 HT.out.l0 (HT.out.below (blw HB3.out (below_alloc (Below.refl _ _) _))).r1 HT.out.l1 HT.out.s1).mono ?_
  rintro e w4 ⟨rfl, hb4⟩
  have HB4 := Lib.hid (blw HB3.out (blw (below_alloc (Below.refl _ _) _) hb4))
  clear hb4
  generalize t.right = r at *
  go_wp2_with fail
  go_ret
  exact ⟨ret_bool hres.out, HB4.out⟩
end
end Go.Proofs.Ytoiejgmfgcdniaa
namespace Go.Proofs.Ytoiejgmfgcdniaa
open Go.RowKit Go.Proofs.YtoiejgmfgcdniaaW.PrintWords

/-! ### LowerShape: the long way -/
structure GramFacts (g : Gram) : Prop where
  terms : 0 ≤ g.terms ∧ g.terms ≤ 16
  nons : 1 ≤ g.nons ∧ g.nons ≤ 24
  len : g.prods.length ≤ 60
  prods : ∀ p, p ∈ g.prods → p.right.length ≤ 8 ∧ (0 ≤ p.left ∧ p.left < g.nons) ∧ ∀ s, s ∈ p.right → 0 ≤ s.n ∧ (s.non = false → s.n < g.terms) ∧ (s.non = true → s.n < g.nons)
theorem gram_facts {g : Gram} (h : g.right = true) : GramFacts g := by
  unfold Gram.right at h
  simp only [Bool.and_eq_true, Bool.not_eq_true', Bool.or_eq_false_iff, decide_eq_false_iff_not, List.any_eq_false] at h
  obtain ⟨⟨⟨⟨⟨⟨⟨h1, h2⟩, h3⟩, h4⟩, h5⟩, h6⟩, h7⟩, h8⟩ := h
  refine ⟨by omega, by omega, by omega, fun p hp => ?_⟩
  have hfit : fitsB g.terms g.nons p = true := by simpa using h8 p hp
  unfold fitsB at hfit
  simp only [Bool.and_eq_true, decide_eq_true_eq, Bool.not_eq_true', List.any_eq_false] at hfit
  obtain ⟨⟨ha, hb⟩, hc⟩ := hfit
  unfold thereB at ha
  simp only [Bool.and_eq_true, decide_eq_true_eq, if_true] at ha
  refine ⟨hb, ha, fun s hs => ?_⟩
  have hs1 : thereB g.terms g.nons s.non s.n = true := by simpa using hc s hs
  unfold thereB at hs1
  simp only [Bool.and_eq_true, decide_eq_true_eq] at hs1
  refine ⟨hs1.1, fun e => ?_, fun e => ?_⟩
  · have := hs1.2; rw [e] at this; simpa using this
  · have := hs1.2; rw [e] at this; simpa using this
theorem ofL_pos (non : Int) : ∀ (ps : List Prod) (i : Nat), (∃ p, p ∈ ps ∧ p.left = non) → 0 < (ofL non i ps).length := by
  intro ps
  induction ps with
  | nil => intro i ⟨p, hp, _⟩; simp at hp
  | cons p ps ih =>
    intro i ⟨p', hp', hl⟩
    unfold ofL
    split
    · simp
    · rename_i hne
      rcases List.mem_cons.1 hp' with rfl | hp'
      · exact absurd hl hne
      · exact ih _ ⟨p', hp', hl⟩
def Pos (us : List Int) (s : Sym) : Prop := s.non = false → ∃ x, us[s.n.toNat]? = some x ∧ 0 < x
theorem Pos.set {us : List Int} {s : Sym} (h : Pos us s) {i : Nat} {x : Int} (hx : us[i]? = some x) (h0 : 0 ≤ x) : Pos (us.set i (x + 1)) s := by
  intro hn
  obtain ⟨y, hy, hy0⟩ := h hn
  by_cases e : i = s.n.toNat
  · subst e
    exact ⟨x + 1, by rw [List.getElem?_set_self (List.getElem?_eq_some_iff.1 hx).1], by omega⟩
  · exact ⟨y, by rw [List.getElem?_set_ne e]; exact hy, hy0⟩
set_option maxRecDepth 100000 in
set_option maxHeartbeats 4000000 in
theorem shape_fine (t : Tree) (A0 : Option Addr) (c0 : Nat) (A1 : Option Addr) (c1 : Nat) (w : World) (haw : AwakeSaid 13) (ht : TreeRow w t A0 c0 A1 c1) (h : largeB t = false) (g : Gram) (l : List ByteArray) (hlow : lowerP t = (g, l, 0))
    (hgr : g.right = true) (hst : g.start = 0) (htm : g.terms = l.length) (hnn : (t.rules.length : Int) ≤ g.nons) (hrn : t.rules.length ≤ 1000) (hsf : ShapeFacts g.nons g.prods l) :
    Calls Try.prog 3 #[.agg #[.slice A0 t.rules.length c0, .slice A1 t.nodes.length c1]] w (TrueBelow w) := by
  have HT := Lib.hid ht
  have HL := Lib.hid h
  have HA := Lib.hid haw
  have HW := Lib.hid hlow
  have HGR := Lib.hid hgr
  have HSF := Lib.hid hsf
  have hgf := gram_facts hgr
  obtain ⟨tm, nn, st, ps⟩ := g
  simp only at hst htm hnn hsf
  subst hst htm
  obtain ⟨⟨_, ht1⟩, ⟨hn0, hn1⟩, hpl, _⟩ := hgf
  simp only at ht1 hn0 hn1 hpl
  have HGF := Lib.hid (gram_facts hgr)
  clear ht h haw hlow hgr hsf
  go_enter Try.func3, Try.ntmps3
  go_wp2_with fail
  refine (HA.out _).mono ?_
  rintro e w1 ⟨rfl, hb1⟩
  obtain ⟨hg1, hb2, _⟩ := bel1 hb1
  have HB1 := Lib.hid hb2
  have HG1 := Lib.hid hg1
  obtain ⟨e0, e1⟩ := cells2 hg1
  clear hb1 hb2 hg1
  go_wp2_with fail
  refine (large_any t A0 c0 A1 c1 w1 (HT.out.below HB1.out).r0 (HT.out.below HB1.out).r1).mono ?_
  rintro e w2 ⟨rfl, hb2⟩
  rw [HL.out]
  have HB2 := Lib.hid (blw HB1.out hb2)
  have HG2 := Lib.hid (blk_below HG1.out hb2)
  clear hb2 e0 e1
  obtain ⟨e0, e1⟩ := cells2 HG2.out
  go_wp2_with fail
  refine (lower_any t A0 c0 A1 c1 w2 (HT.out.below HB2.out)).mono ?_
  intro e w3 hp
  rw [HW.out] at hp
  obtain ⟨Ap, cp, Av, cv, rfl, hcp, hPr, hNm, hcv, hb3⟩ := hp.open_
  have HB3 := Lib.hid (blw HB2.out hb3)
  have HG3 := Lib.hid (blk_below HG2.out hb3)
  have HPR := Lib.hid hPr
  have HNM := Lib.hid hNm
  have HB2s := Lib.hid (blk_lt HG3.out)
  simp only at hcp hPr
  clear hp hb3 e0 e1 hPr hNm
  obtain ⟨e0, e1⟩ := cells2 HG3.out
  have q0 := cell1 e0
  have q1 := cell1 e1
  go_wp2_with fail
  clear q0 q1
  have HBN := Lib.hid (below_alloc (Below.refl w3.heap.size w3) (.cells #[.int .i64 l.length, .int .i64 nn, .int .i64 0, .slice Ap ps.length cp] 30))
  have HGN := Lib.hid (blk_new w3 (.cells #[.int .i64 l.length, .int .i64 nn, .int .i64 0, .slice Ap ps.length cp] 30))
  refine (gRight_any ⟨(l.length : Int), nn, 0, ps⟩ Ap cp _ hcp (Kd.C_below HPR.out HBN.out)).mono ?_
  rintro e w4 ⟨rfl, hb4⟩
  rw [HGR.out]
  have HB4 := Lib.hid (blw HBN.out hb4)
  have HG4 := Lib.hid (blk_below HGN.out hb4)
  have HT4 := Lib.hid (blk_below HG3.out HB4.out)
  obtain ⟨i0, i1, i2, i3⟩ := cells4 HG4.out
  obtain ⟨j0, j1⟩ := cells2 HT4.out
  have h34 := Lib.hid HB4.out.size
  clear hb4 e0 e1
  have b1 : ((l.length : Int) != (l.length : Int)) = false := by simp
  go_wp2_with (at_make; refine Kd.R_make (Kd.int .i64) (w0 := w3) w3.heap.size 3 rfl rfl 36 (.tmp 69) (.tmp 69) rfl (l.length : Int) rfl rfl Try.underlying36 (.int .i64 0) 8 info3 rfl (by decide) (by decide) (0 : Int) (ok := fun _ => True) (okp := fun _ => False) rfl (fun _ h => h.elim) trivial (by omega) (by omega) HB4.out h34.out ?_; intro v1 w5 ho hb1 hg hat; have hF5 : Fr w3.heap.size [] [] w4 w5 := ⟨hg.os, hg.tape, hg.output, hg.size, fun k hk _ => hg.block k hk (by simp)⟩; obtain ⟨ub, hbo, hble⟩ := hat; obtain ⟨uc, huc⟩ := form_of ho hbo; rw [List.length_replicate, Int.toNat_natCast] at huc; subst huc; have HO := Lib.hid ho; have HB5 := Lib.hid hb1; have HF5 := Lib.hid hF5; have HBL := Lib.hid hble; have HG5 := Lib.hid (hF5.blk HG4.out (by simp) (by simp)); clear ho hb1 hg hbo hble hF5 i0 i1 i2 i3 j0 j1; obtain ⟨i0, i1, i2, i3⟩ := cells4 HG5.out)
  clear i0 i1 i2 i3
  have hu0 : Hid (Kd.R (Kd.int .i64) 3 w5 w3.heap.size (fun _ => True) (.slice (some ⟨ub, 0, none⟩) l.length uc) (List.replicate l.length 0)) := by have := HO; rwa [Int.toNat_natCast] at this
  clear HO
  go_loopw [7, 74] (fun v i wr => ∃ (k : Nat) (last : Int) (us : List Int), k ≤ ps.length ∧ i = .int .i64 k ∧ v = .int .i64 last ∧ (0 ≤ last ∧ last ≤ 24) ∧ Hid (stepsGo last (ps.drop k) = some (nn - 1)) ∧ us.length = l.length ∧
    Hid (Kd.R (Kd.int .i64) 3 wr w3.heap.size (fun _ => True) (.slice (some ⟨ub, 0, none⟩) l.length uc) us) ∧ Hid (∀ (i : Nat) (x : Int), us[i]? = some x → 0 ≤ x ∧ x ≤ k * 8) ∧ Hid (∀ p, p ∈ ps.take k → ∀ s, s ∈ p.right → Pos us s) ∧ Hid (Fr w3.heap.size [] [3] w5 wr)) (fun _ i _ => ps.length - (intOf i).toNat)
  case atStart => exact ⟨0, 0, List.replicate l.length 0, Nat.zero_le _, rfl, rfl, by omega, Lib.hid HSF.out.steps, by simp, hu0, Lib.hid (fun i x hx => by rw [List.getElem?_replicate] at hx; split at hx <;> simp_all; omega), Lib.hid (by simp), Lib.hid (Fr.refl _ _ _ _)⟩
  case round =>
    clear hu0
    obtain ⟨k, last, us, hk, rfl, rfl, ⟨hl0, hl1⟩, HST, hul, HU, HX, HP, HF⟩ := hrel
    have HB := Lib.hid (HB5.out.trans (HF.out.toBelow HB5.out.size))
    have HG := Lib.hid (HF.out.blk HG5.out (by decide) (by simp))
    obtain ⟨wo, rfl⟩ : ∃ wo : World, wo = wr := ⟨_, rfl⟩
    by_cases hlt : k < ps.length
    · obtain ⟨ad, x, A2, c2, had, hx, e0', e1', l2, k2⟩ := at_Prod HPR.out k hlt
      have e0 := pw_cell_below HB.out e0'
      have e1 := pw_cell_below HB.out e1'
      subst had
      have HXK := Lib.hid hx
      have HTK := Lib.hid (take_of hx)
      have hgx := HGF.out.prods x (List.mem_of_getElem? hx)
      have HGX := Lib.hid hgx
      have hx8 := hgx.1
      have hlx := hgx.2.1
      simp only at hlx
      have K2 := Lib.hid k2
      have hst := HST.out
      rw [drop_of hx, stepsGo] at hst
      have n1 : ¬ x.left < last := fun hc => by rw [if_pos (.inl hc)] at hst; cases hst
      have n2 : ¬ last + 1 < x.left := fun hc => by rw [if_pos (.inr hc)] at hst; cases hst
      rw [if_neg (by omega)] at hst
      have HST2 := Lib.hid hst
      clear e0' e1' hx k2 hgx hst HST
      have hb2 := below_alloc (Below.refl wo.heap.size wo) (.cells #[.int .i64 x.left, .slice A2 x.right.length c2] 39)
      have HB2' := Lib.hid hb2
      clear hb2
      obtain ⟨i0, i1, i2, i3⟩ := cells4 HG.out
      go_wp2_with fail
      clear e0 e1 i0 i1 i2 i3
      have hb2 := HB2'.out
      generalize wo.alloc (.cells #[.int .i64 x.left, .slice A2 x.right.length c2] 39) = W2 at *
      have HU2 := Lib.hid (Kd.R_below HU.out hb2)
      have HF2 := Lib.hid (HF.out.trans (Fr.of_below hb2))
      clear hb2
      go_loopw [94] (fun i wr => ∃ (q : Nat) (us : List Int), q ≤ x.right.length ∧ i = .int .i64 q ∧ us.length = l.length ∧
        Hid (Kd.R (Kd.int .i64) 3 wr w3.heap.size (fun _ => True) (.slice (some ⟨ub, 0, none⟩) l.length uc) us) ∧ Hid (∀ (i : Nat) (y : Int), us[i]? = some y → 0 ≤ y ∧ y ≤ k * 8 + q) ∧ Hid (∀ p, p ∈ ps.take k → ∀ s, s ∈ p.right → Pos us s) ∧ Hid (∀ s, s ∈ x.right.take q → Pos us s) ∧ Hid (Fr w3.heap.size [] [3] w5 wr)) (fun i _ => x.right.length - (intOf i).toNat)
      case atStart => exact ⟨0, us, Nat.zero_le _, rfl, hul, HU2, Lib.hid (fun i y hy => by have := HX.out i y hy; omega), HP, Lib.hid (by simp), HF2⟩
      case round =>
        clear HU2 HX HP HF2 hul
        obtain ⟨q, us, hq, rfl, hul, HU, HX, HP, HQ, HF⟩ := hrel
        have HB := Lib.hid (HB5.out.trans (HF.out.toBelow HB5.out.size))
        by_cases hlq : q < x.right.length
        · obtain ⟨a3, s, rfl, hs, f0', f1'⟩ := at_Sym (Kd.C_below K2.out HB.out) q hlq
          have HTQ := Lib.hid (take_of hs)
          have hgs := HGX.out.2.2 s (List.mem_of_getElem? hs)
          clear hs
          obtain ⟨nb, sn⟩ := s
          obtain ⟨g0, g1, g2⟩ := hgs
          simp only at g0 g1 g2 f0' f1'
          cases nb
          · have g1 := g1 rfl
            obtain ⟨m, rfl⟩ : ∃ m : Nat, sn = m := ⟨sn.toNat, by omega⟩
            have hm : m < l.length := by omega
            obtain ⟨y, hy⟩ : ∃ y, us[m]? = some y := ⟨_, List.getElem?_eq_getElem (by omega)⟩
            have hyr := HX.out m y hy
            have HY := Lib.hid hy
            have hc := Kd.R_celln (0 : Int) (Kd.R_alloc HU.out (.cells #[.bool false, .int .i64 m] 41)) (m : Int) (by omega) (by omega)
            rw [Int.toNat_natCast] at hc
            have hrd : rdOf (0 : Int) us (m : Int) = y := by unfold rdOf; rw [Int.toNat_natCast, List.getD_eq_getElem?_getD, hy]; rfl
            rw [hrd] at hc
            have hub : ub < wr.heap.size := Kd.R_lt HU.out ub rfl
            have HC := Lib.hid hc
            have HYR := Lib.hid hyr
            clear hc hrd hy
            go_upto_region 22 with (fail)
            clear f0' f1'
            have hb3 := below_alloc (Below.refl wr.heap.size wr) (.cells #[.bool false, .int .i64 m] 41)
            have HU3 := Lib.hid (Kd.R_below HU.out hb3)
            have HF3 := Lib.hid (HF.out.trans (Fr.of_below hb3))
            have hg1 := (cells2 (blk_new wr (.cells #[.bool false, .int .i64 m] 41))).2
            have hub3 : ub < (wr.alloc (.cells #[.bool false, .int .i64 m] 41)).heap.size := by rw [size_alloc]; omega
            obtain ⟨hc1, hc2⟩ := HC.out
            clear hb3 HC HU HF
            generalize wr.alloc (.cells #[.bool false, .int .i64 m] 41) = W3 at *
            go_wp2_with fail
            go_roundw
            case rel =>
              have hput := Kd.R_putg HU3.out (m : Int) (y + 1)
              rw [Int.toNat_natCast] at hput
              obtain ⟨cells, hcl⟩ := Kd.R_typed HU3.out ub rfl
              have hub0 := Kd.R_base HU3.out ub rfl
              refine ⟨q + 1, us.set m (y + 1), by omega, by go_num, by rw [List.length_set]; exact hul, Lib.hid hput.1, Lib.hid (fun i z hz => ?_), Lib.hid (fun p hp s hs => (HP.out p hp s hs).set HY.out HYR.out.1), Lib.hid (fun s hs => ?_), Lib.hid (HF3.out.trans (Fr.set hcl (by simp) hub0))⟩
              · by_cases e : m = i
                · subst e
                  rw [List.getElem?_set_self (by omega)] at hz
                  have := HYR.out
                  injection hz with hz
                  omega
                · rw [List.getElem?_set_ne e] at hz
                  have := HX.out i z hz
                  omega
              · rw [HTQ.out, List.mem_append, List.mem_singleton] at hs
                rcases hs with hs | rfl
                · exact (HQ.out s hs).set HY.out HYR.out.1
                · intro _
                  exact ⟨y + 1, by show (us.set m (y + 1))[(m : Int).toNat]? = _; rw [Int.toNat_natCast, List.getElem?_set_self (by omega)], by have := HYR.out; omega⟩
            case measure => simp [intOf]; omega
          · go_wp2_with fail
            go_roundw
            case rel => exact ⟨q + 1, us, by omega, by go_num, hul, Lib.hid (Kd.R_alloc HU.out _), Lib.hid (fun i y hy => by have := HX.out i y hy; omega), HP, Lib.hid (fun s hs => by
                rw [HTQ.out, List.mem_append, List.mem_singleton] at hs
                rcases hs with hs | rfl
                · exact HQ.out s hs
                · intro h; cases h), Lib.hid (HF.out.trans (Fr.of_below (below_alloc (Below.refl _ _) _)))⟩
            case measure => simp [intOf]; omega
        · have HE : Hid (x.right.take q = x.right) := Lib.hid (List.take_of_length_le (by omega))
          go_wp2_with fail
          go_roundw
          case rel => exact ⟨k + 1, x.left, us, by omega, by go_num, rfl, by omega, HST2, hul, HU, Lib.hid (fun i y hy => by have := HX.out i y hy; omega), Lib.hid (fun p hp => by
              rw [HTK.out, List.mem_append, List.mem_singleton] at hp
              rcases hp with hp | rfl
              · exact HP.out p hp
              · have := HQ.out; rwa [HE.out] at this), HF⟩
          case measure => simp [intOf]; omega
    · have hlast : last = nn - 1 := by have := HST.out; rw [List.drop_eq_nil_of_le (by omega), stepsGo] at this; injection this
      have hused : Hid (∀ i : Nat, i < l.length → ∃ y, us[i]? = some y ∧ 0 < y) := Lib.hid (fun i hi => by
        obtain ⟨p, s, hp, hs, hn, hsi⟩ := HSF.out.used i hi
        obtain ⟨y, hy, hy0⟩ := HP.out p (by rw [List.take_of_length_le (by omega)]; exact hp) s hs hn
        rw [hsi, Int.toNat_natCast] at hy
        exact ⟨y, hy, hy0⟩)
      obtain ⟨i0, i1, i2, i3⟩ := cells4 HG.out
      go_wp2_with fail
      clear i0 i1 i2 i3
      go_loopw [112] (fun i wr => ∃ k : Nat, k ≤ l.length ∧ i = .int .i64 k ∧ Hid (Below wo.heap.size wo wr)) (fun i _ => l.length - (intOf i).toNat)
      case atStart => exact ⟨0, Nat.zero_le _, rfl, Lib.hid (Below.refl _ _)⟩
      case round =>
        obtain ⟨i, hi, rfl, HBI⟩ := hrel
        have HB9 := Lib.hid (blw (Below.refl _ _) ((HB.out.trans (HBI.out.mono HB.out.size))))
        by_cases hil : i < l.length
        · obtain ⟨y, hy, hy0⟩ := hused.out i hil
          have hc := Kd.R_celln (0 : Int) (Kd.R_below HU.out HBI.out) (i : Int) (by omega) (by omega)
          have hrd : rdOf (0 : Int) us (i : Int) = y := by unfold rdOf; rw [Int.toNat_natCast, List.getD_eq_getElem?_getD, hy]; rfl
          rw [Int.toNat_natCast, hrd] at hc
          have hc1 := hc.1
          have by0 : (y == 0) = false := beq_eq_false_iff_ne.2 (by omega)
          obtain ⟨w6, rfl⟩ : ∃ w6 : World, w6 = wr := ⟨_, rfl⟩
          clear hc hrd hy hy0
          go_wp2_with fail
          clear hc1
          go_loopw [123] (fun j wr => ∃ m : Nat, m ≤ i ∧ j = .int .i64 m ∧ Hid (Below wo.heap.size wo wr)) (fun j _ => i - (intOf j).toNat)
          case atStart => exact ⟨0, Nat.zero_le _, rfl, HBI⟩
          case round =>
            obtain ⟨m, hm, rfl, HBJ⟩ := hrel
            have HB10 := Lib.hid ((HB.out.trans (HBJ.out.mono HB.out.size)))
            by_cases hmi : m < i
            · obtain ⟨a4, y1, rfl, hy1, e1⟩ := at_string (Kd.C_below HNM.out HB10.out) m (by omega)
              obtain ⟨a5, y2, ha5, hy2, e2⟩ := at_string (Kd.C_below HNM.out HB10.out) i (by omega)
              obtain rfl : a4 = a5 := Option.some.inj ha5
              have hne : y1 ≠ y2 := by
                rintro rfl
                obtain ⟨h1, e3⟩ := List.getElem?_eq_some_iff.1 hy1
                obtain ⟨h2, e4⟩ := List.getElem?_eq_some_iff.1 hy2
                exact List.pairwise_iff_getElem.1 HSF.out.nodup m i h1 h2 hmi (e3.trans e4.symm)
              have hstr : (y1.toList == y2.toList) = false := by rw [str_eq]; exact decide_eq_false hne
              clear ha5 hy1 hy2 hne
              go_wp2_with fail
              go_roundw
              case rel => exact ⟨m + 1, by omega, by go_num, HBJ⟩
              case measure => simp [intOf]; omega
            · go_wp2_with fail
              go_roundw
              case rel => exact ⟨i + 1, by omega, by go_num, HBJ⟩
              case measure => simp [intOf]; omega
        · obtain ⟨i0, i1, i2, i3⟩ := cells4 (blk_below HG.out HBI.out)
          have HPR2 := Lib.hid (Kd.C_below HPR.out HB9.out)
          subst hlast
          have bl : (nn - 1 == nn - 1) = true := by simp
          go_wp2_with fail
          refine (of_any ⟨(l.length : Int), nn, 0, ps⟩ Ap cp 0 wr HPR2.out (by simp only; omega)).mono ?_
          rintro e w7 ⟨v, rfl, hv, hb7⟩
          obtain ⟨Ao, co, rfl, _⟩ := Kd.R_reads hv
          have hpos := ofL_pos 0 ps 0 HSF.out.first
          have hol := ofL_len 0 ps 0
          generalize (ofL 0 0 ps).length = no at *
          have HB11 := Lib.hid (blw HB3.out ((HB9.out.trans (hb7.mono HB9.out.size))))
          clear hv hb7 i0 i1 i2 i3
          go_wp2_with fail
          go_ret
          exact ⟨rfl, HB11.out⟩
end Go.Proofs.Ytoiejgmfgcdniaa
