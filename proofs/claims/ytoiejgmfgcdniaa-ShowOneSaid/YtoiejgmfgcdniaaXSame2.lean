import Derived.Test.YtoiejgmfgcdniaaXRules2
import Derived.Test.YtoiejgmfgcdniaaXTail
import Derived.Test.YtoiejgmfgcdniaaXRules4
set_option linter.unusedVariables false
set_option linter.unusedSimpArgs false
namespace Go.Proofs.Ytoiejgmfgcdniaa
open Go.RowKit Go.Proofs.YtoiejgmfgcdniaaW.PrintWords

/-! ### slices.Equal at rules -/
theorem toList_iff (a b : ByteArray) : a.toList = b.toList ↔ a = b := by
  have h := str_eq a b
  constructor
  · intro e; rw [e] at h; simpa using h.symm
  · intro e; rw [e]
set_option maxRecDepth 100000 in
theorem neq_rule (x y : Rule) (w : World) : (binOp .neq 59 (.agg #[.string x.name, .int .i64 x.body]) (.agg #[.string y.name, .int .i64 y.body])).run Try.prog w = .ok (.bool (decide (x ≠ y))) w := by
  rw [run_neq_struct, run_equalIn_agg w _ _ _ _ (by kernel_rfl) Try.stoodInHeld59]
  simp [go_sem]
  obtain ⟨a, n⟩ := x
  obtain ⟨b, m⟩ := y
  simp only [toList_iff, Rule.mk.injEq]
  by_cases h1 : a = b <;> by_cases h2 : n = m <;> simp [h1, h2]
set_option maxRecDepth 100000 in
set_option maxHeartbeats 1000000 in
theorem equal_rules (A B : Option Addr) (c d : Nat) (xs ys : List Rule) (w : World) (hr : Kd.C kRule w A xs.length xs) (hs : Kd.C kRule w B ys.length ys) :
    Calls Try.prog 66 #[.slice A xs.length c, .slice B ys.length d] w fun e w' => e = .returned (.bool (decide (xs = ys))) ∧ Below w.heap.size w w' := by
  have hm := Kd.C_max hr
  have hm2 := Kd.C_max hs
  have HR := Lib.hid hr
  have HS := Lib.hid hs
  clear hr hs
  generalize hres : decide (xs = ys) = res
  have H0 := Lib.hid hres
  clear hres
  by_cases hl : xs.length = ys.length
  · have b0 : ((xs.length : Int) != (ys.length : Int)) = false := by rw [hl]; simp
    have HL := Lib.hid hl
    have hl1 : xs.length ≤ ys.length := by omega
    clear hl
    go_enter Try.func66, Try.ntmps66
    go_wp2_with fail
    go_loopw [13] (fun i wr => ∃ k : Nat, k ≤ xs.length ∧ i = .int .i64 k ∧ Hid (xs.take k = ys.take k) ∧ ∃ n, wr = w.drewN n) (fun i _ => xs.length - (intOf i).toNat)
    case atStart => exact ⟨0, Nat.zero_le _, rfl, Lib.hid rfl, 0, rfl⟩
    case round =>
      obtain ⟨k, hk, rfl, HT, n, rfl⟩ := hrel
      by_cases hlt : k < xs.length
      · obtain ⟨ad, x, rfl, hx, c0, c1⟩ := at_Rule HR.out k hlt
        obtain ⟨bd, y, rfl, hy, d0, d1⟩ := at_Rule HS.out k (by omega)
        have HX := Lib.hid hx
        have HY := Lib.hid hy
        clear hx hy
        have i1 : (k : Int) < (ys.length : Int) := by omega
        have hq := neq_rule x y
        by_cases hp : x = y
        · have hE : Hid (xs.take (k + 1) = ys.take (k + 1)) := Lib.hid (by rw [take_of HX.out, take_of HY.out, HT.out, hp])
          rw [decide_eq_false (by simpa using hp)] at hq
          clear hp
          go_wp2_with fail
          go_quiet (fail)
          go_wp2_with fail
          go_roundw
          case rel => exact ⟨k + 1, by omega, by go_num, hE, _, rfl⟩
          case measure => simp [intOf]; omega
        · have HE := Lib.hid (H0.out.symm.trans (decide_eq_false (take_ne HX.out HY.out hp)))
          rw [decide_eq_true hp] at hq
          clear hp
          go_wp2_with fail
          go_quiet (fail)
          go_wp2_with fail
          go_ret
          exact ⟨ret_bool HE.out.symm, by first | exact pw_below_drewN (Below.refl _ _) _ | exact pw_below_drewN (pw_below_drewN (Below.refl _ _) _) _⟩
      · have HE : Hid (res = true) := Lib.hid (H0.out.symm.trans (decide_eq_true (by
          have h := HT.out
          have hl := HL.out
          rwa [List.take_of_length_le (by omega), List.take_of_length_le (by omega)] at h)))
        go_wp2_with fail
        go_ret
        exact ⟨ret_bool HE.out.symm, pw_below_drewN (Below.refl _ _) _⟩
  · have b0 : ((xs.length : Int) != (ys.length : Int)) = true := by rw [bne_iff_ne]; omega
    have HE : Hid (res = false) := Lib.hid (H0.out.symm.trans (decide_eq_false (fun h => hl (by rw [h]))))
    go_enter Try.func66, Try.ntmps66
    go_wp2_with fail
    go_ret
    exact ⟨ret_bool HE.out.symm, Below.refl _ _⟩
end Go.Proofs.Ytoiejgmfgcdniaa
namespace Go.Proofs.Ytoiejgmfgcdniaa
open Go.RowKit Go.Proofs.YtoiejgmfgcdniaaW.PrintWords

theorem cf68 : ∀ args W, (callFunc 68 args).run Try.prog W = .ok (.enter 68 args) W := by
  intro args W; simp [callFunc, go_sem, Try.func68]; rfl
theorem node_eq (x y : Node) : decide (x = y) = (decide (x.kind = y.kind) && decide (x.name = y.name) && decide (x.kids = y.kids)) := by
  obtain ⟨a, b, c⟩ := x
  obtain ⟨a', b', c'⟩ := y
  by_cases h1 : a = a' <;> by_cases h2 : b = b' <;> by_cases h3 : c = c' <;> simp [h1, h2, h3]
set_option maxRecDepth 100000 in
set_option maxHeartbeats 1000000 in
theorem node_same (x y : Node) (A B : Option Addr) (c d : Nat) (w : World) (hx : Kd.C (Kd.int .i64) w A x.kids.length x.kids) (hy : Kd.C (Kd.int .i64) w B y.kids.length y.kids) :
    Calls Try.prog 68 #[.agg #[.int .i64 x.kind, .string x.name, .slice A x.kids.length c], .agg #[.int .i64 y.kind, .string y.name, .slice B y.kids.length d]] w fun e w' => e = .returned (.bool (decide (x = y))) ∧ Below w.heap.size w w' := by
  have hB := below_alloc (below_alloc (Below.refl w.heap.size w) (.cells #[.int .i64 x.kind, .string x.name, .slice A x.kids.length c] 57)) (.cells #[.int .i64 y.kind, .string y.name, .slice B y.kids.length d] 57)
  have HB := Lib.hid hB
  have HE := Lib.hid (equal_int A B c d x.kids y.kids _ (Kd.C_below hx hB) (Kd.C_below hy hB))
  clear hB hx hy
  have HQ := Lib.hid (node_eq x y)
  generalize decide (x = y) = res at HQ ⊢
  by_cases h1 : x.kind = y.kind
  · have b1 : (x.kind == y.kind) = true := by simpa using h1
    cases h2 : (x.name.toList == y.name.toList)
    · have HR : Hid (res = false) := Lib.hid (by rw [HQ.out, ← str_eq, h2]; simp)
      clear HQ h1
      go_enter Try.func68, Try.ntmps68
      go_wp2_with fail
      go_ret
      exact ⟨ret_bool HR.out.symm, HB.out⟩
    · have HR : Hid (res = decide (x.kids = y.kids)) := Lib.hid (by rw [HQ.out, ← str_eq, h2, decide_eq_true h1]; simp)
      clear HQ h1
      generalize decide (x.kids = y.kids) = q at HR HE
      go_enter Try.func68, Try.ntmps68
      go_wp2_with fail
      refine HE.out.mono ?_
      rintro e w' ⟨rfl, hb⟩
      go_wp2_with fail
      go_ret
      exact ⟨ret_bool HR.out.symm, blw HB.out hb⟩
  · have b1 : (x.kind == y.kind) = false := by simpa using h1
    have HR : Hid (res = false) := Lib.hid (by rw [HQ.out, decide_eq_false h1]; simp)
    clear HQ h1
    go_enter Try.func68, Try.ntmps68
    go_wp2_with fail
    go_ret
    exact ⟨ret_bool HR.out.symm, HB.out⟩
set_option maxRecDepth 100000 in
set_option maxHeartbeats 1000000 in
theorem equal_nodes (A B : Option Addr) (c d : Nat) (xs ys : List Node) (w : World) (hr : Kd.C kNode w A xs.length xs) (hs : Kd.C kNode w B ys.length ys) :
    Calls Try.prog 67 #[.slice A xs.length c, .slice B ys.length d, .func (.func 68) #[] #[]] w fun e w' => e = .returned (.bool (decide (xs = ys))) ∧ Below w.heap.size w w' := by
  have hm := Kd.C_max hr
  have hm2 := Kd.C_max hs
  have HR := Lib.hid hr
  have HS := Lib.hid hs
  have hcf := cf68
  clear hr hs
  generalize hres : decide (xs = ys) = res
  have H0 := Lib.hid hres
  clear hres
  by_cases hl : xs.length = ys.length
  · have b0 : ((xs.length : Int) != (ys.length : Int)) = false := by rw [hl]; simp
    have HL := Lib.hid hl
    have hl1 : xs.length ≤ ys.length := by omega
    clear hl
    go_enter Try.func67, Try.ntmps67
    go_wp2_with fail
    go_loopw [17] (fun i wr => ∃ k : Nat, k ≤ xs.length ∧ i = .int .i64 k ∧ Hid (xs.take k = ys.take k) ∧ Hid (Below w.heap.size w wr)) (fun i _ => xs.length - (intOf i).toNat)
    case atStart => exact ⟨0, Nat.zero_le _, rfl, Lib.hid rfl, Lib.hid (Below.refl _ _)⟩
    case round =>
      obtain ⟨k, hk, rfl, HT, HB⟩ := hrel
      by_cases hlt : k < xs.length
      · obtain ⟨ad, x, A2, c2, rfl, hx, e0, e1, e2, l2, k2⟩ := at_Node (Kd.C_below HR.out HB.out) k hlt
        obtain ⟨bd, y, B2, d2, rfl, hy, f0, f1, f2, m2, q2⟩ := at_Node (Kd.C_below HS.out (HB.out.trans ((below_alloc (Below.refl wr.heap.size wr) (.cells #[.int .i64 x.kind, .string x.name, .slice A2 x.kids.length c2] 57)).mono HB.out.size))) k (by omega)
        have HX := Lib.hid hx
        have HY := Lib.hid hy
        have hb2 := below_alloc (below_alloc (Below.refl wr.heap.size wr) (.cells #[.int .i64 x.kind, .string x.name, .slice A2 x.kids.length c2] 57)) (.cells #[.int .i64 y.kind, .string y.name, .slice B2 y.kids.length d2] 57)
        have HB2 := Lib.hid (blw HB.out hb2)
        have HN := Lib.hid (node_same x y A2 B2 c2 d2 _ (Kd.C_below k2 hb2) (Kd.C_below (Kd.C_below q2 (below_alloc (Below.refl _ _) _)) (Below.refl _ _)))
        clear hx hy hb2 k2 q2
        have i1 : (k : Int) < (ys.length : Int) := by omega
        by_cases hp : x = y
        · have hE : Hid (xs.take (k + 1) = ys.take (k + 1)) := Lib.hid (by rw [take_of HX.out, take_of HY.out, HT.out, hp])
          rw [decide_eq_true hp] at HN
          clear hp
          go_wp2_with fail
          refine HN.out.mono ?_
          rintro e w' ⟨rfl, hb⟩
          have HB3 := Lib.hid (blw HB2.out hb)
          clear hb
          go_wp2_with fail
          go_roundw
          case rel => exact ⟨k + 1, by omega, by go_num, hE, HB3⟩
          case measure => simp [intOf]; omega
        · have HE := Lib.hid (H0.out.symm.trans (decide_eq_false (take_ne HX.out HY.out hp)))
          rw [decide_eq_false hp] at HN
          clear hp
          go_wp2_with fail
          refine HN.out.mono ?_
          rintro e w' ⟨rfl, hb⟩
          have HB3 := Lib.hid (blw HB2.out hb)
          clear hb
          go_wp2_with fail
          go_ret
          exact ⟨ret_bool HE.out.symm, HB3.out⟩
      · have HE : Hid (res = true) := Lib.hid (H0.out.symm.trans (decide_eq_true (by
          have h := HT.out
          have hl := HL.out
          rwa [List.take_of_length_le (by omega), List.take_of_length_le (by omega)] at h)))
        go_wp2_with fail
        go_ret
        exact ⟨ret_bool HE.out.symm, HB.out⟩
  · have b0 : ((xs.length : Int) != (ys.length : Int)) = true := by rw [bne_iff_ne]; omega
    have HE : Hid (res = false) := Lib.hid (H0.out.symm.trans (decide_eq_false (fun h => hl (by rw [h]))))
    go_enter Try.func67, Try.ntmps67
    go_wp2_with fail
    go_ret
    exact ⟨ret_bool HE.out.symm, Below.refl _ _⟩
def Tree.same (a b : Tree) : Bool := decide (a.rules = b.rules) && decide (a.nodes = b.nodes)
set_option maxRecDepth 100000 in
set_option maxHeartbeats 1000000 in
theorem same_any (a b : Tree) (A0 A1 B0 B1 : Option Addr) (c0 c1 d0 d1 : Nat) (w : World) (ha0 : Kd.C kRule w A0 a.rules.length a.rules) (ha1 : Kd.C kNode w A1 a.nodes.length a.nodes) (hb0 : Kd.C kRule w B0 b.rules.length b.rules) (hb1 : Kd.C kNode w B1 b.nodes.length b.nodes) :
    Calls Try.prog 25 #[.agg #[.slice A0 a.rules.length c0, .slice A1 a.nodes.length c1], .agg #[.slice B0 b.rules.length d0, .slice B1 b.nodes.length d1]] w fun e w' => e = .returned (.bool (a.same b)) ∧ Below w.heap.size w w' := by
  have hB := below_alloc (below_alloc (Below.refl w.heap.size w) (.cells #[.slice A0 a.rules.length c0, .slice A1 a.nodes.length c1] 25)) (.cells #[.slice B0 b.rules.length d0, .slice B1 b.nodes.length d1] 25)
  have HB := Lib.hid hB
  have HE := Lib.hid (equal_rules A0 B0 c0 d0 a.rules b.rules _ (Kd.C_below ha0 hB) (Kd.C_below hb0 hB))
  have HN := Lib.hid (fun (w2 : World) (h : Below ((w.alloc (.cells #[.slice A0 a.rules.length c0, .slice A1 a.nodes.length c1] 25)).alloc (.cells #[.slice B0 b.rules.length d0, .slice B1 b.nodes.length d1] 25)).heap.size ((w.alloc (.cells #[.slice A0 a.rules.length c0, .slice A1 a.nodes.length c1] 25)).alloc (.cells #[.slice B0 b.rules.length d0, .slice B1 b.nodes.length d1] 25)) w2) => equal_nodes A1 B1 c1 d1 a.nodes b.nodes w2 (Kd.C_below (Kd.C_below ha1 hB) h) (Kd.C_below (Kd.C_below hb1 hB) h))
  clear hB ha0 ha1 hb0 hb1
  have HQ : Hid (a.same b = (decide (a.rules = b.rules) && decide (a.nodes = b.nodes))) := Lib.hid rfl
  generalize a.same b = res at HQ ⊢
  generalize decide (a.rules = b.rules) = q1 at HQ HE
  generalize decide (a.nodes = b.nodes) = q2 at HQ HN
  go_enter Try.func25, Try.ntmps25
  go_wp2_with fail
  refine HE.out.mono ?_
  rintro e w' ⟨rfl, hb⟩
  obtain ⟨g0, g1, hbw, hlt⟩ := bel2 hb
  obtain ⟨u0, u1⟩ := cells2 g0
  obtain ⟨v0, v1⟩ := cells2 g1
  have HBW := Lib.hid hbw
  have HN2 := Lib.hid (HN.out w' hb)
  clear hb g0 g1 hbw
  cases q1
  · go_wp2_with fail
    go_ret
    exact ⟨ret_bool (by rw [HQ.out]; rfl), HBW.out⟩
  · go_wp2_with fail
    refine HN2.out.mono ?_
    rintro e w'' ⟨rfl, hb⟩
    go_wp2_with fail
    go_ret
    exact ⟨ret_bool (by rw [HQ.out]; rfl), blw HBW.out hb⟩
end Go.Proofs.Ytoiejgmfgcdniaa
