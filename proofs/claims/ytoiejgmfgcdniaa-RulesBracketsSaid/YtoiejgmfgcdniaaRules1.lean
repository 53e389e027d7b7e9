import Derived.Test.YtoiejgmfgcdniaaScan4
import Derived.Test.YtoiejgmfgcdniaaIdx
set_option linter.unusedVariables false
set_option linter.unusedSimpArgs false
namespace Go.Proofs.Ytoiejgmfgcdniaa
open Go.RowKit Go.Proofs.YtoiejgmfgcdniaaW.PrintWords

/-! ### text == text, as the walk spells it -/
theorem str_eq (a b : ByteArray) : (a.toList == b.toList) = decide (a = b) := by
  have h : a.toList = b.toList ↔ a = b := by
    rw [ByteArray.toList_eq, ByteArray.toList_eq]
    constructor
    · intro h; exact ByteArray.ext (Array.toList_inj.1 h)
    · rintro rfl; rfl
  rw [Bool.eq_iff_iff]
  simp [h]
/-- Is a text just one token of a kind? -/
def tokenB (s : ByteArray) (kind : Int) : Bool :=
  match scanL s.data.toList with
  | ([t], _, e) => (e == 0) && ((t.kind == kind) && ((t.pos == 0) && ((kind == 2) || decide (t.text = s))))
  | _ => false
set_option maxHeartbeats 1000000 in
theorem token_any (s : ByteArray) (kind : Int) (w : World) : Calls Try.prog 49 #[.string s, .int .i64 kind] w fun e w' => e = .returned (.bool (tokenB s kind)) ∧ Below w.heap.size w w' := by
  have hq : tokenB s kind = (match scanL s.data.toList with
  | ([t], _, e) => (e == 0) && ((t.kind == kind) && ((t.pos == 0) && ((kind == 2) || decide (t.text = s))))
  | _ => false) := rfl
  have HS := Lib.hid (scan_any s w)
  generalize scanL s.data.toList = R at hq HS
  obtain ⟨ts, a, b⟩ := R
  generalize tokenB s kind = res at *
  cases he : b == 0 with
  | false =>
    have hr : res = false := by
      rw [hq]
      match ts with
      | [] => rfl
      | [t] => simp only [he, Bool.false_and]
      | _ :: _ :: _ => rfl
    clear hq
    subst hr
    go_enter Try.func49, Try.ntmps49
    go_wp2_with fail
    refine HS.out.mono ?_
    rintro e w' ⟨A, c, rfl, hc, hC, hb⟩
    have HC := Lib.hid hC
    clear hC
    go_wp2_with fail
    go_ret
    exact ⟨rfl, hb⟩
  | true =>
    by_cases hl : ts.length = 1
    · match ts, hl with
      | [t], _ =>
        simp only [he, Bool.true_and] at hq
        have HQ := Lib.hid hq
        clear hq
        have hstr := fun x : ByteArray => str_eq x s
        have HSTR := Lib.hid hstr
        clear hstr
        go_enter Try.func49, Try.ntmps49
        go_wp2_with fail
        refine HS.out.mono ?_
        rintro e w' ⟨A, c, rfl, hc, hC, hb⟩
        obtain ⟨ad, x, rfl, hx, d0, d1, d2⟩ := at_Tok hC 0 (by simp)
        obtain rfl : t = x := by simpa using hx
        simp only [Nat.zero_mul, Addr.add_zero'] at d0 d1 d2
        have HC := Lib.hid hC
        clear hC hx
        have h4 := HSTR.out t.text
        cases h1 : (t.kind == kind) <;> cases h2 : (t.pos == 0) <;> cases h3 : (kind == 2) <;> cases h5 : decide (t.text = s) <;> rw [h5] at h4 <;> (
          have HQ2 := HQ.out
          simp only [h1, h2, h3, h5, Bool.true_and, Bool.false_and, Bool.true_or, Bool.or_true, Bool.or_false, Bool.false_or, Bool.and_self] at HQ2
          subst HQ2
          clear HQ h5
          go_wp2_with fail
          go_ret
          exact ⟨rfl, hb⟩)
    · have hr : res = false := by
        rw [hq]
        match ts, hl with
        | [], _ => rfl
        | [t], h => exact absurd rfl h
        | _ :: _ :: _, _ => rfl
      have b1 : ((ts.length : Int) == 1) = false := beq_eq_false_iff_ne.2 (by omega)
      clear hq
      subst hr
      go_enter Try.func49, Try.ntmps49
      go_wp2_with fail
      refine HS.out.mono ?_
      rintro e w' ⟨A, c, rfl, hc, hC, hb⟩
      have HC := Lib.hid hC
      clear hC
      go_wp2_with fail
      go_ret
      exact ⟨rfl, hb⟩
end Go.Proofs.Ytoiejgmfgcdniaa
