import Derived.Test.YtoiejgmfgcdniaaBase
set_option linter.unusedVariables false
namespace Go.Proofs.Ytoiejgmfgcdniaa
open Go.RowKit Go.Proofs.YtoiejgmfgcdniaaW.PrintWords

def letterI (c : Int) : Bool := decide (97 ≤ c) && decide (c ≤ 122) || decide (65 ≤ c) && decide (c ≤ 90)
def partI (c : Int) : Bool := letterI c || decide (48 ≤ c) && decide (c ≤ 57) || decide (c = 95)
def quotedI (c : Int) : Bool := decide (32 ≤ c) && decide (c ≤ 126) && decide (c ≠ 39)
theorem letterI_iff (c : Int) : letterI c = true ↔ (97 ≤ c ∧ c ≤ 122 ∨ 65 ≤ c ∧ c ≤ 90) := by simp [letterI]
set_option maxHeartbeats 400000 in
theorem letter_any (c : Int) (w : World) : Calls Try.prog 118 #[.int .u8 c] w fun e w' => e = .returned (.bool (letterI c)) ∧ w = w' := by
  by_cases h1 : 97 ≤ c <;> by_cases h2 : c ≤ 122 <;> by_cases h3 : 65 ≤ c <;> by_cases h4 : c ≤ 90 <;> first | omega | (go_enter Try.func118, Try.ntmps118; go_wp2; go_ret; exact ⟨ret_bool (by simp [letterI] <;> omega), rfl⟩)
set_option maxHeartbeats 800000 in
theorem part_any (c : Int) (w : World) : Calls Try.prog 120 #[.int .u8 c] w fun e w' => e = .returned (.bool (partI c)) ∧ w = w' := by
  have hp : partI c = (letterI c || decide (48 ≤ c) && decide (c ≤ 57) || (c == 95)) := by rw [Bool.eq_iff_iff]; simp [partI]
  have HP := Lib.hid hp
  clear hp
  cases h0 : letterI c <;> by_cases h1 : 48 ≤ c <;> by_cases h2 : c ≤ 57 <;> cases h3 : c == 95 <;> (
    go_enter Try.func120, Try.ntmps120
    go_wp2_with fail
    refine (letter_any c _).mono ?_
    rintro e w' ⟨rfl, rfl⟩
    go_wp2_with fail
    all_goals (go_ret; exact ⟨ret_bool (by rw [HP.out]; simp [h0, h1, h2, h3]), rfl⟩))
set_option maxHeartbeats 800000 in
theorem quoted_any (c : Int) (w : World) : Calls Try.prog 121 #[.int .u8 c] w fun e w' => e = .returned (.bool (quotedI c)) ∧ w = w' := by
  have hp : quotedI c = (decide (32 ≤ c) && decide (c ≤ 126) && (c != 39)) := by rw [Bool.eq_iff_iff]; simp [quotedI]
  have HP := Lib.hid hp
  clear hp
  by_cases h1 : 32 ≤ c <;> by_cases h2 : c ≤ 126 <;> cases h3 : c != 39 <;> (
    go_enter Try.func121, Try.ntmps121
    go_wp2_with fail
    all_goals (go_ret; exact ⟨ret_bool (by rw [HP.out]; simp [h1, h2, h3]), rfl⟩))

theorem cf120 : ∀ args W, (callFunc 120 args).run Try.prog W = .ok (.enter 120 args) W := by
  intro args W; simp [callFunc, go_sem, Try.func120]; rfl
theorem cf121 : ∀ args W, (callFunc 121 args).run Try.prog W = .ok (.enter 121 args) W := by
  intro args W; simp [callFunc, go_sem, Try.func121]; rfl
/-- How many bytes from the first one on are such. -/
def runL (p : Int → Bool) (l : List UInt8) : Nat := (l.takeWhile fun b => p b.toNat).length
theorem runL_drop {p : Int → Bool} {l : List UInt8} {k : Nat} (h : k ≤ runL p l) : runL p l = k + runL p (l.drop k) := by
  induction k generalizing l with
  | zero => simp
  | succ k ih =>
    cases l with
    | nil => simp [runL] at h
    | cons b l =>
      unfold runL at h ⊢
      by_cases hp : p b.toNat = true
      · simp only [List.takeWhile_cons, hp, if_true, List.length_cons] at h ⊢
        have := ih (l := l) (by unfold runL; omega)
        unfold runL at this
        simp only [List.drop_succ_cons]
        omega
      · simp only [List.takeWhile_cons, hp] at h
        simp at h
theorem runL_le (p : Int → Bool) (l : List UInt8) : runL p l ≤ l.length := by
  unfold runL; exact (List.takeWhile_sublist _).length_le
theorem bytes_drop (s : ByteArray) (k : Nat) (h : k < s.size) : s.data.toList.drop k = s[k] :: s.data.toList.drop (k + 1) := by
  have hl : k < s.data.toList.length := by rw [data_length]; exact h
  rw [List.drop_eq_getElem_cons hl]; rfl
theorem runL_hit {p : Int → Bool} {s : ByteArray} {k : Nat} (hlt : k < s.size) (h : k ≤ runL p s.data.toList) (hp : p (s[k].toNat) = true) : k + 1 ≤ runL p s.data.toList := by
  rw [runL_drop h, bytes_drop s k hlt]
  simp [runL, hp]
theorem runL_miss {p : Int → Bool} {s : ByteArray} {k : Nat} (hlt : k < s.size) (h : k ≤ runL p s.data.toList) (hp : p (s[k].toNat) = false) : runL p s.data.toList = k := by
  rw [runL_drop h, bytes_drop s k hlt]
  simp [runL, hp]
theorem runL_end {p : Int → Bool} {s : ByteArray} {k : Nat} (hlt : ¬ k < s.size) (h : k ≤ runL p s.data.toList) : runL p s.data.toList = k := by
  have := runL_le p s.data.toList
  rw [data_length] at this
  omega
set_option maxHeartbeats 400000 in
theorem run_any (F : Nat) (p : Int → Bool) (s : ByteArray) (w : World) (hs : s.size ≤ 9223372036854775807)
    (hcf : ∀ args W, (callFunc F args).run Try.prog W = .ok (.enter F args) W)
    (hF : ∀ (c : Int) W, Calls Try.prog F #[.int .u8 c] W fun e w' => e = .returned (.bool (p c)) ∧ W = w') :
    Calls Try.prog 119 #[.string s, .func (.func F) #[] #[]] w fun e w' => e = .returned (.int .i64 (runL p s.data.toList)) ∧ w = w' := by
  have HF := Lib.hid hF
  clear hF
  go_enter Try.func119, Try.ntmps119
  go_wp2_with fail
  go_loopw [5] (fun i wr => ∃ k : Nat, k ≤ s.size ∧ i = .int .i64 k ∧ k ≤ runL p s.data.toList ∧ w = wr) (fun i _ => s.size - (intOf i).toNat)
  case atStart => exact ⟨0, Nat.zero_le _, rfl, Nat.zero_le _, rfl⟩
  case round =>
    obtain ⟨k, hk, rfl, hr, rfl⟩ := hrel
    by_cases hlt : k < s.size
    · go_wp2_with fail
      refine (HF.out _ _).mono ?_
      rintro e w' ⟨rfl, rfl⟩
      cases hp : p (s[k].toNat)
      · have HE := Lib.hid (runL_miss hlt hr hp)
        go_wp2_with fail
        go_ret
        refine ⟨ret_int (by rw [HE.out]), ?_⟩
        first | rfl | trivial
      · have HE := Lib.hid (runL_hit hlt hr hp)
        go_wp2_with fail
        go_roundw
        case rel => exact ⟨k + 1, by omega, by go_num, HE.out, by trivial⟩
        case measure => simp [intOf]; omega
    · have HE := Lib.hid (runL_end hlt hr)
      go_wp2_with fail
      go_ret
      refine ⟨ret_int (by rw [HE.out]), ?_⟩
      first | rfl | trivial
end Go.Proofs.Ytoiejgmfgcdniaa
