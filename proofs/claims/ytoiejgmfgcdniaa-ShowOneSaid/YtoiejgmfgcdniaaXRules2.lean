import Derived.Test.YtoiejgmfgcdniaaXScan4
import Derived.Test.YtoiejgmfgcdniaaXIdx
set_option linter.unusedVariables false
set_option linter.unusedSimpArgs false
namespace Go.Proofs.Ytoiejgmfgcdniaa
open Go.RowKit Go.Proofs.YtoiejgmfgcdniaaW.PrintWords

/-! ### text == text, as the walk spells it -/
theorem str_eq (a b : ByteArray) : (a.toList == b.toList) = decide (a = b) := by
  have h : a.toList = b.toList ↔ a = b := by
    rw [ByteArray.toList_eq, ByteArray.toList_eq]
    constructor
    · intro h; exact ByteArray.ext (Array.toList_inj.1 h)
    · rintro rfl; rfl
  rw [Bool.eq_iff_iff]
  simp [h]
/-- Is a text just one token of a kind? -/
def tokenB (s : ByteArray) (kind : Int) : Bool :=
  match scanL s.data.toList with
  | ([t], _, e) => (e == 0) && ((t.kind == kind) && ((t.pos == 0) && ((kind == 2) || decide (t.text = s))))
  | _ => false
set_option maxHeartbeats 1000000 in
theorem token_any (s : ByteArray) (kind : Int) (w : World) : Calls Try.prog 49 #[.string s, .int .i64 kind] w fun e w' => e = .returned (.bool (tokenB s kind)) ∧ Below w.heap.size w w' := by
  have hq : tokenB s kind = (match scanL s.data.toList with
  | ([t], _, e) => (e == 0) && ((t.kind == kind) && ((t.pos == 0) && ((kind == 2) || decide (t.text = s))))
  | _ => false) := rfl
  have HS := Lib.hid (scan_any s w)
  generalize scanL s.data.toList = R at hq HS
  obtain ⟨ts, a, b⟩ := R
  generalize tokenB s kind = res at *
  cases he : b == 0 with
  | false =>
    have hr : res = false := by
      rw [hq]
      match ts with
      | [] => rfl
      | [t] => simp only [he, Bool.false_and]
      | _ :: _ :: _ => rfl
    clear hq
    subst hr
    go_enter Try.func49, Try.ntmps49
    go_wp2_with fail
    refine HS.out.mono ?_
    rintro e w' ⟨A, c, rfl, hc, hC, hb⟩
    have HC := Lib.hid hC
    clear hC
    go_wp2_with fail
    go_ret
    exact ⟨rfl, hb⟩
  | true =>
    by_cases hl : ts.length = 1
    · match ts, hl with
      | [t], _ =>
        simp only [he, Bool.true_and] at hq
        have HQ := Lib.hid hq
        clear hq
        have hstr := fun x : ByteArray => str_eq x s
        have HSTR := Lib.hid hstr
        clear hstr
        go_enter Try.func49, Try.ntmps49
        go_wp2_with fail
        refine HS.out.mono ?_
        rintro e w' ⟨A, c, rfl, hc, hC, hb⟩
        obtain ⟨ad, x, rfl, hx, d0, d1, d2⟩ := at_Tok hC 0 (by simp)
        obtain rfl : t = x := by simpa using hx
        simp only [Nat.zero_mul, Addr.add_zero'] at d0 d1 d2
        have HC := Lib.hid hC
        clear hC hx
        have h4 := HSTR.out t.text
        cases h1 : (t.kind == kind) <;> cases h2 : (t.pos == 0) <;> cases h3 : (kind == 2) <;> cases h5 : decide (t.text = s) <;> rw [h5] at h4 <;> (
          have HQ2 := HQ.out
          simp only [h1, h2, h3, h5, Bool.true_and, Bool.false_and, Bool.true_or, Bool.or_true, Bool.or_false, Bool.false_or, Bool.and_self] at HQ2
          subst HQ2
          clear HQ h5
          go_wp2_with fail
          go_ret
          exact ⟨rfl, hb⟩)
    · have hr : res = false := by
        rw [hq]
        match ts, hl with
        | [], _ => rfl
        | [t], h => exact absurd rfl h
        | _ :: _ :: _, _ => rfl
      have b1 : ((ts.length : Int) == 1) = false := beq_eq_false_iff_ne.2 (by omega)
      clear hq
      subst hr
      go_enter Try.func49, Try.ntmps49
      go_wp2_with fail
      refine HS.out.mono ?_
      rintro e w' ⟨A, c, rfl, hc, hC, hb⟩
      have HC := Lib.hid hC
      clear hC
      go_wp2_with fail
      go_ret
      exact ⟨rfl, hb⟩
end Go.Proofs.Ytoiejgmfgcdniaa
namespace Go.Proofs.Ytoiejgmfgcdniaa
open Go.RowKit Go.Proofs.YtoiejgmfgcdniaaW.PrintWords

set_option maxHeartbeats 400000 in
theorem index_byte (v : Int) (A : Option Addr) (c : Nat) (xs : List Int) (w : World) (hr : ReadsInt w .u8 A xs.length xs) :
    Calls Try.prog 152 #[.slice A xs.length c, .int .u8 v] w fun e w' => e = .returned (.int .i64 (idxOf (fun x => v == x) xs)) ∧ w = w' := by
  have hm := hr.2.1
  have HR := Lib.hid hr
  clear hr
  generalize hres : idxOf (fun x => v == x) xs = res
  have H0 : Hid (res = idxFrom (fun x => v == x) 0 xs) := Lib.hid hres.symm
  clear hres
  go_enter Try.func152, Try.ntmps152
  go_wp2_with fail
  go_loopw [8] (fun i wr => ∃ k : Nat, k ≤ xs.length ∧ i = .int .i64 k ∧ Hid (res = idxFrom (fun x => v == x) k (xs.drop k)) ∧ w = wr) (fun i _ => xs.length - (intOf i).toNat)
  case atStart => exact ⟨0, Nat.zero_le _, rfl, H0, rfl⟩
  case round =>
    clear H0
    obtain ⟨k, hk, rfl, HS, rfl⟩ := hrel
    by_cases hlt : k < xs.length
    · obtain ⟨ad, hA, hc⟩ := HR.out.2.2 (by omega)
      subst hA
      have hx : xs[k]? = some xs[k] := List.getElem?_eq_getElem hlt
      have c0 := hc k hlt
      have hg : xs.getD k 0 = xs[k] := by simp [List.getD_eq_getElem?_getD, hx]
      rw [hg] at c0
      clear hc hg
      generalize xs[k] = x at hx c0
      have HX := Lib.hid hx
      clear hx
      cases hp : (v == x)
      · have HE := Lib.hid (HS.trans (idxFrom_miss (p := fun x => v == x) HX.out hp))
        go_wp2_with fail
        go_roundw
        case rel => exact ⟨k + 1, by omega, by go_num, HE.out, by trivial⟩
        case measure => simp [intOf]; omega
      · have HE := Lib.hid (HS.trans (idxFrom_hit (p := fun x => v == x) HX.out hp))
        go_wp2_with fail
        go_ret
        exact ⟨ret_int HE.out.symm, by first | rfl | trivial⟩
    · have HE : Hid (res = -1) := Lib.hid (HS.trans (by rw [List.drop_eq_nil_of_le (by omega)]; rfl))
      go_wp2_with fail
      go_ret
      refine ⟨ret_int HE.out.symm, ?_⟩
      first | rfl | trivial
set_option maxHeartbeats 400000 in
theorem cont_byte (v : Int) (A : Option Addr) (n c : Nat) (xs : List Int) (w : World) (hr : ReadsInt w .u8 A n xs) :
    Calls Try.prog 103 #[.slice A n c, .int .u8 v] w fun e w' => e = .returned (.bool (xs.any (fun x => v == x))) ∧ w = w' := by
  obtain rfl := hr.1
  have HC := Lib.hid (index_byte v A c xs w hr)
  clear hr
  go_enter Try.func103, Try.ntmps103
  go_wp2_with fail
  refine HC.out.mono ?_
  rintro e w' ⟨rfl, rfl⟩
  go_wp2_with fail
  go_ret
  exact ⟨ret_bool (idxOf_any _ xs), by first | rfl | trivial⟩
theorem take_ne {α : Type} {xs ys : List α} {k : Nat} {x y : α} (hx : xs[k]? = some x) (hy : ys[k]? = some y) (h : x ≠ y) : xs ≠ ys := by
  rintro rfl
  rw [hx] at hy
  exact h (Option.some.inj hy)
set_option maxHeartbeats 400000 in
theorem equal_int (A B : Option Addr) (c d : Nat) (xs ys : List Int) (w : World) (hr : Kd.C (Kd.int .i64) w A xs.length xs) (hs : Kd.C (Kd.int .i64) w B ys.length ys) :
    Calls Try.prog 53 #[.slice A xs.length c, .slice B ys.length d] w fun e w' => e = .returned (.bool (decide (xs = ys))) ∧ Below w.heap.size w w' := by
  have hm := Kd.C_max hr
  have hm2 := Kd.C_max hs
  have HR := Lib.hid hr
  have HS := Lib.hid hs
  clear hr hs
  generalize hres : decide (xs = ys) = res
  have H0 := Lib.hid hres
  clear hres
  by_cases hl : xs.length = ys.length
  · have b0 : ((xs.length : Int) != (ys.length : Int)) = false := by rw [hl]; simp
    have HL := Lib.hid hl
    have hl1 : xs.length ≤ ys.length := by omega
    clear hl
    go_enter Try.func53, Try.ntmps53
    go_wp2_with fail
    go_loopw [13] (fun i wr => ∃ k : Nat, k ≤ xs.length ∧ i = .int .i64 k ∧ Hid (xs.take k = ys.take k) ∧ ∃ n, wr = w.drewN n) (fun i _ => xs.length - (intOf i).toNat)
    case atStart => exact ⟨0, Nat.zero_le _, rfl, Lib.hid rfl, 0, rfl⟩
    case round =>
      obtain ⟨k, hk, rfl, HT, n, rfl⟩ := hrel
      by_cases hlt : k < xs.length
      · obtain ⟨ad, x, rfl, hx, c0⟩ := at_int HR.out k hlt
        obtain ⟨bd, y, rfl, hy, d0⟩ := at_int HS.out k (by omega)
        have HX := Lib.hid hx
        have HY := Lib.hid hy
        clear hx hy
        have i1 : (k : Int) < (ys.length : Int) := by omega
        go_wp2_with fail
        go_quiet (fail)
        cases hp : (x != y)
        · go_wp2_with fail
          go_roundw
          case rel => exact ⟨k + 1, by omega, by go_num, Lib.hid (by rw [take_of HX.out, take_of HY.out, HT.out, bne_eq_false_iff_eq.1 hp]), _, rfl⟩
          case measure => simp [intOf]; omega
        · have HE := Lib.hid (H0.out.symm.trans (decide_eq_false (take_ne HX.out HY.out (bne_iff_ne.1 hp))))
          go_wp2_with fail
          go_ret
          exact ⟨ret_bool HE.out.symm, by first | exact pw_below_drewN (Below.refl _ _) _ | exact pw_below_drewN (pw_below_drewN (Below.refl _ _) _) _⟩
      · have HE : Hid (res = true) := Lib.hid (H0.out.symm.trans (decide_eq_true (by
          have h := HT.out
          have hl := HL.out
          rwa [List.take_of_length_le (by omega), List.take_of_length_le (by omega)] at h)))
        go_wp2_with fail
        go_ret
        exact ⟨ret_bool HE.out.symm, pw_below_drewN (Below.refl _ _) _⟩
  · have b0 : ((xs.length : Int) != (ys.length : Int)) = true := by rw [bne_iff_ne]; omega
    have HE : Hid (res = false) := Lib.hid (H0.out.symm.trans (decide_eq_false (fun h => hl (by rw [h]))))
    go_enter Try.func53, Try.ntmps53
    go_wp2_with fail
    go_ret
    exact ⟨ret_bool HE.out.symm, Below.refl _ _⟩
end Go.Proofs.Ytoiejgmfgcdniaa
