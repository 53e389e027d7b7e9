import Derived.Test.YtoiejgmfgcdniaaRules2
import Derived.Test.YtoiejgmfgcdniaaTail
set_option linter.unusedVariables false
set_option linter.unusedSimpArgs false
namespace Go.Proofs.Ytoiejgmfgcdniaa
open Go.RowKit Go.Proofs.YtoiejgmfgcdniaaW.PrintWords

/-! ### slices.Equal at rules -/
theorem toList_iff (a b : ByteArray) : a.toList = b.toList ↔ a = b := by
  have h := str_eq a b
  constructor
  · intro e; rw [e] at h; simpa using h.symm
  · intro e; rw [e]
set_option maxRecDepth 100000 in
theorem neq_rule (x y : Rule) (w : World) : (binOp .neq 59 (.agg #[.string x.name, .int .i64 x.body]) (.agg #[.string y.name, .int .i64 y.body])).run Try.prog w = .ok (.bool (decide (x ≠ y))) w := by
  rw [run_neq_struct, run_equalIn_agg w _ _ _ _ (by kernel_rfl) Try.stoodInHeld59]
  simp [go_sem]
  obtain ⟨a, n⟩ := x
  obtain ⟨b, m⟩ := y
  simp only [toList_iff, Rule.mk.injEq]
  by_cases h1 : a = b <;> by_cases h2 : n = m <;> simp [h1, h2]
set_option maxRecDepth 100000 in
set_option maxHeartbeats 1000000 in
theorem equal_rules (A B : Option Addr) (c d : Nat) (xs ys : List Rule) (w : World) (hr : Kd.C kRule w A xs.length xs) (hs : Kd.C kRule w B ys.length ys) :
    Calls Try.prog 66 #[.slice A xs.length c, .slice B ys.length d] w fun e w' => e = .returned (.bool (decide (xs = ys))) ∧ Below w.heap.size w w' := by
  have hm := Kd.C_max hr
  have hm2 := Kd.C_max hs
  have HR := Lib.hid hr
  have HS := Lib.hid hs
  clear hr hs
  generalize hres : decide (xs = ys) = res
  have H0 := Lib.hid hres
  clear hres
  by_cases hl : xs.length = ys.length
  · have b0 : ((xs.length : Int) != (ys.length : Int)) = false := by rw [hl]; simp
    have HL := Lib.hid hl
    have hl1 : xs.length ≤ ys.length := by omega
    clear hl
    go_enter Try.func66, Try.ntmps66
    go_wp2_with fail
    go_loopw [13] (fun i wr => ∃ k : Nat, k ≤ xs.length ∧ i = .int .i64 k ∧ Hid (xs.take k = ys.take k) ∧ ∃ n, wr = w.drewN n) (fun i _ => xs.length - (intOf i).toNat)
    case atStart => exact ⟨0, Nat.zero_le _, rfl, Lib.hid rfl, 0, rfl⟩
    case round =>
      obtain ⟨k, hk, rfl, HT, n, rfl⟩ := hrel
      by_cases hlt : k < xs.length
      · obtain ⟨ad, x, rfl, hx, c0, c1⟩ := at_Rule HR.out k hlt
        obtain ⟨bd, y, rfl, hy, d0, d1⟩ := at_Rule HS.out k (by omega)
        have HX := Lib.hid hx
        have HY := Lib.hid hy
        clear hx hy
        have i1 : (k : Int) < (ys.length : Int) := by omega
        have hq := neq_rule x y
        by_cases hp : x = y
        · have hE : Hid (xs.take (k + 1) = ys.take (k + 1)) := Lib.hid (by rw [take_of HX.out, take_of HY.out, HT.out, hp])
          rw [decide_eq_false (by simpa using hp)] at hq
          clear hp
          go_wp2_with fail
          go_quiet (fail)
          go_wp2_with fail
          go_roundw
          case rel => exact ⟨k + 1, by omega, by go_num, hE, _, rfl⟩
          case measure => simp [intOf]; omega
        · have HE := Lib.hid (H0.out.symm.trans (decide_eq_false (take_ne HX.out HY.out hp)))
          rw [decide_eq_true hp] at hq
          clear hp
          go_wp2_with fail
          go_quiet (fail)
          go_wp2_with fail
          go_ret
          exact ⟨ret_bool HE.out.symm, by first | exact pw_below_drewN (Below.refl _ _) _ | exact pw_below_drewN (pw_below_drewN (Below.refl _ _) _) _⟩
      · have HE : Hid (res = true) := Lib.hid (H0.out.symm.trans (decide_eq_true (by
          have h := HT.out
          have hl := HL.out
          rwa [List.take_of_length_le (by omega), List.take_of_length_le (by omega)] at h)))
        go_wp2_with fail
        go_ret
        exact ⟨ret_bool HE.out.symm, pw_below_drewN (Below.refl _ _) _⟩
  · have b0 : ((xs.length : Int) != (ys.length : Int)) = true := by rw [bne_iff_ne]; omega
    have HE : Hid (res = false) := Lib.hid (H0.out.symm.trans (decide_eq_false (fun h => hl (by rw [h]))))
    go_enter Try.func66, Try.ntmps66
    go_wp2_with fail
    go_ret
    exact ⟨ret_bool HE.out.symm, Below.refl _ _⟩
end Go.Proofs.Ytoiejgmfgcdniaa
