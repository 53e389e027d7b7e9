import Derived.Test.YtoiejgmfgcdniaaOwn1
set_option linter.unusedVariables false
set_option linter.unusedSimpArgs false
namespace Go.Proofs.Ytoiejgmfgcdniaa
open Go.RowKit Go.Proofs.YtoiejgmfgcdniaaW.PrintWords

/-! ### the references' Same -/
set_option maxHeartbeats 400000 in
theorem same_int (A B : Option Addr) (c d : Nat) (xs ys : List Int) (w : World) (hr : Kd.C (Kd.int .i64) w A xs.length xs) (hs : Kd.C (Kd.int .i64) w B ys.length ys) :
    Calls Try.prog 63 #[.slice A xs.length c, .slice B ys.length d] w fun e w' => e = .returned (.bool (decide (xs = ys))) ∧ Below w.heap.size w w' := by
  have hm := Kd.C_max hr
  have hm2 := Kd.C_max hs
  have HR := Lib.hid hr
  have HS := Lib.hid hs
  clear hr hs
  generalize hres : decide (xs = ys) = res
  have H0 := Lib.hid hres
  clear hres
  by_cases hl : xs.length = ys.length
  · have b0 : ((xs.length : Int) != (ys.length : Int)) = false := by rw [hl]; simp
    have HL := Lib.hid hl
    have hl1 : xs.length ≤ ys.length := by omega
    clear hl
    go_enter Try.func63, Try.ntmps63
    go_wp2_with fail
    go_loopw [5] (fun i wr => ∃ k : Nat, k ≤ xs.length ∧ i = .int .i64 k ∧ Hid (xs.take k = ys.take k) ∧ ∃ n, wr = w.drewN n) (fun i _ => xs.length - (intOf i).toNat)
    case atStart => exact ⟨0, Nat.zero_le _, rfl, Lib.hid rfl, 0, rfl⟩
    case round =>
      obtain ⟨k, hk, rfl, HT, n, rfl⟩ := hrel
      by_cases hlt : k < xs.length
      · obtain ⟨ad, x, rfl, hx, c0⟩ := at_int HR.out k hlt
        obtain ⟨bd, y, rfl, hy, d0⟩ := at_int HS.out k (by omega)
        have HX := Lib.hid hx
        have HY := Lib.hid hy
        clear hx hy
        have i1 : (k : Int) < (ys.length : Int) := by omega
        go_wp2_with fail
        go_quiet (fail)
        cases hp : (x != y)
        · go_wp2_with fail
          go_roundw
          case rel => exact ⟨k + 1, by omega, by go_num, Lib.hid (by rw [take_of HX.out, take_of HY.out, HT.out, bne_eq_false_iff_eq.1 hp]), _, rfl⟩
          case measure => simp [intOf]; omega
        · have HE := Lib.hid (H0.out.symm.trans (decide_eq_false (take_ne HX.out HY.out (bne_iff_ne.1 hp))))
          go_wp2_with fail
          go_ret
          exact ⟨ret_bool HE.out.symm, by first | exact pw_below_drewN (Below.refl _ _) _ | exact pw_below_drewN (pw_below_drewN (Below.refl _ _) _) _⟩
      · have HE : Hid (res = true) := Lib.hid (H0.out.symm.trans (decide_eq_true (by
          have h := HT.out
          have hl := HL.out
          rwa [List.take_of_length_le (by omega), List.take_of_length_le (by omega)] at h)))
        go_wp2_with fail
        go_ret
        exact ⟨ret_bool HE.out.symm, pw_below_drewN (Below.refl _ _) _⟩
  · have b0 : ((xs.length : Int) != (ys.length : Int)) = true := by rw [bne_iff_ne]; omega
    have HE : Hid (res = false) := Lib.hid (H0.out.symm.trans (decide_eq_false (fun h => hl (by rw [h]))))
    go_enter Try.func63, Try.ntmps63
    go_wp2_with fail
    go_ret
    exact ⟨ret_bool HE.out.symm, Below.refl _ _⟩
end Go.Proofs.Ytoiejgmfgcdniaa
