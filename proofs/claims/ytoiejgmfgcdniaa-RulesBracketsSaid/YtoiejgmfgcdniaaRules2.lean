import Derived.Test.YtoiejgmfgcdniaaRules1
set_option linter.unusedVariables false
set_option linter.unusedSimpArgs false
namespace Go.Proofs.Ytoiejgmfgcdniaa
open Go.RowKit Go.Proofs.YtoiejgmfgcdniaaW.PrintWords

set_option maxHeartbeats 400000 in
theorem index_byte (v : Int) (A : Option Addr) (c : Nat) (xs : List Int) (w : World) (hr : ReadsInt w .u8 A xs.length xs) :
    Calls Try.prog 152 #[.slice A xs.length c, .int .u8 v] w fun e w' => e = .returned (.int .i64 (idxOf (fun x => v == x) xs)) ∧ w = w' := by
  have hm := hr.2.1
  have HR := Lib.hid hr
  clear hr
  generalize hres : idxOf (fun x => v == x) xs = res
  have H0 : Hid (res = idxFrom (fun x => v == x) 0 xs) := Lib.hid hres.symm
  clear hres
  go_enter Try.func152, Try.ntmps152
  go_wp2_with fail
  go_loopw [8] (fun i wr => ∃ k : Nat, k ≤ xs.length ∧ i = .int .i64 k ∧ Hid (res = idxFrom (fun x => v == x) k (xs.drop k)) ∧ w = wr) (fun i _ => xs.length - (intOf i).toNat)
  case atStart => exact ⟨0, Nat.zero_le _, rfl, H0, rfl⟩
  case round =>
    clear H0
    obtain ⟨k, hk, rfl, HS, rfl⟩ := hrel
    by_cases hlt : k < xs.length
    · obtain ⟨ad, hA, hc⟩ := HR.out.2.2 (by omega)
      subst hA
      have hx : xs[k]? = some xs[k] := List.getElem?_eq_getElem hlt
      have c0 := hc k hlt
      have hg : xs.getD k 0 = xs[k] := by simp [List.getD_eq_getElem?_getD, hx]
      rw [hg] at c0
      clear hc hg
      generalize xs[k] = x at hx c0
      have HX := Lib.hid hx
      clear hx
      cases hp : (v == x)
      · have HE := Lib.hid (HS.trans (idxFrom_miss (p := fun x => v == x) HX.out hp))
        go_wp2_with fail
        go_roundw
        case rel => exact ⟨k + 1, by omega, by go_num, HE.out, by trivial⟩
        case measure => simp [intOf]; omega
      · have HE := Lib.hid (HS.trans (idxFrom_hit (p := fun x => v == x) HX.out hp))
        go_wp2_with fail
        go_ret
        exact ⟨ret_int HE.out.symm, by first | rfl | trivial⟩
    · have HE : Hid (res = -1) := Lib.hid (HS.trans (by rw [List.drop_eq_nil_of_le (by omega)]; rfl))
      go_wp2_with fail
      go_ret
      refine ⟨ret_int HE.out.symm, ?_⟩
      first | rfl | trivial
set_option maxHeartbeats 400000 in
theorem cont_byte (v : Int) (A : Option Addr) (n c : Nat) (xs : List Int) (w : World) (hr : ReadsInt w .u8 A n xs) :
    Calls Try.prog 103 #[.slice A n c, .int .u8 v] w fun e w' => e = .returned (.bool (xs.any (fun x => v == x))) ∧ w = w' := by
  obtain rfl := hr.1
  have HC := Lib.hid (index_byte v A c xs w hr)
  clear hr
  go_enter Try.func103, Try.ntmps103
  go_wp2_with fail
  refine HC.out.mono ?_
  rintro e w' ⟨rfl, rfl⟩
  go_wp2_with fail
  go_ret
  exact ⟨ret_bool (idxOf_any _ xs), by first | rfl | trivial⟩
theorem take_ne {α : Type} {xs ys : List α} {k : Nat} {x y : α} (hx : xs[k]? = some x) (hy : ys[k]? = some y) (h : x ≠ y) : xs ≠ ys := by
  rintro rfl
  rw [hx] at hy
  exact h (Option.some.inj hy)
set_option maxHeartbeats 400000 in
theorem equal_int (A B : Option Addr) (c d : Nat) (xs ys : List Int) (w : World) (hr : Kd.C (Kd.int .i64) w A xs.length xs) (hs : Kd.C (Kd.int .i64) w B ys.length ys) :
    Calls Try.prog 53 #[.slice A xs.length c, .slice B ys.length d] w fun e w' => e = .returned (.bool (decide (xs = ys))) ∧ Below w.heap.size w w' := by
  have hm := Kd.C_max hr
  have hm2 := Kd.C_max hs
  have HR := Lib.hid hr
  have HS := Lib.hid hs
  clear hr hs
  generalize hres : decide (xs = ys) = res
  have H0 := Lib.hid hres
  clear hres
  by_cases hl : xs.length = ys.length
  · have b0 : ((xs.length : Int) != (ys.length : Int)) = false := by rw [hl]; simp
    have HL := Lib.hid hl
    have hl1 : xs.length ≤ ys.length := by omega
    clear hl
    go_enter Try.func53, Try.ntmps53
    go_wp2_with fail
    go_loopw [13] (fun i wr => ∃ k : Nat, k ≤ xs.length ∧ i = .int .i64 k ∧ Hid (xs.take k = ys.take k) ∧ ∃ n, wr = w.drewN n) (fun i _ => xs.length - (intOf i).toNat)
    case atStart => exact ⟨0, Nat.zero_le _, rfl, Lib.hid rfl, 0, rfl⟩
    case round =>
      obtain ⟨k, hk, rfl, HT, n, rfl⟩ := hrel
      by_cases hlt : k < xs.length
      · obtain ⟨ad, x, rfl, hx, c0⟩ := at_int HR.out k hlt
        obtain ⟨bd, y, rfl, hy, d0⟩ := at_int HS.out k (by omega)
        have HX := Lib.hid hx
        have HY := Lib.hid hy
        clear hx hy
        have i1 : (k : Int) < (ys.length : Int) := by omega
        go_wp2_with fail
        go_quiet (fail)
        cases hp : (x != y)
        · go_wp2_with fail
          go_roundw
          case rel => exact ⟨k + 1, by omega, by go_num, Lib.hid (by rw [take_of HX.out, take_of HY.out, HT.out, bne_eq_false_iff_eq.1 hp]), _, rfl⟩
          case measure => simp [intOf]; omega
        · have HE := Lib.hid (H0.out.symm.trans (decide_eq_false (take_ne HX.out HY.out (bne_iff_ne.1 hp))))
          go_wp2_with fail
          go_ret
          exact ⟨ret_bool HE.out.symm, by first | exact pw_below_drewN (Below.refl _ _) _ | exact pw_below_drewN (pw_below_drewN (Below.refl _ _) _) _⟩
      · have HE : Hid (res = true) := Lib.hid (H0.out.symm.trans (decide_eq_true (by
          have h := HT.out
          have hl := HL.out
          rwa [List.take_of_length_le (by omega), List.take_of_length_le (by omega)] at h)))
        go_wp2_with fail
        go_ret
        exact ⟨ret_bool HE.out.symm, pw_below_drewN (Below.refl _ _) _⟩
  · have b0 : ((xs.length : Int) != (ys.length : Int)) = true := by rw [bne_iff_ne]; omega
    have HE : Hid (res = false) := Lib.hid (H0.out.symm.trans (decide_eq_false (fun h => hl (by rw [h]))))
    go_enter Try.func53, Try.ntmps53
    go_wp2_with fail
    go_ret
    exact ⟨ret_bool HE.out.symm, Below.refl _ _⟩
end Go.Proofs.Ytoiejgmfgcdniaa
