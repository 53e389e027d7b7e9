import Derived.Test.YtoiejgmfgcdniaaXBase
import Derived.Test.YtoiejgmfgcdniaaXShelf
set_option linter.unusedVariables false
set_option linter.unusedSimpArgs false
namespace Go.Proofs.Ytoiejgmfgcdniaa
open Go.RowKit Go.Proofs.YtoiejgmfgcdniaaW.PrintWords

def letterI (c : Int) : Bool := decide (97 ≤ c) && decide (c ≤ 122) || decide (65 ≤ c) && decide (c ≤ 90)
def partI (c : Int) : Bool := letterI c || decide (48 ≤ c) && decide (c ≤ 57) || decide (c = 95)
def quotedI (c : Int) : Bool := decide (32 ≤ c) && decide (c ≤ 126) && decide (c ≠ 39)
theorem letterI_iff (c : Int) : letterI c = true ↔ (97 ≤ c ∧ c ≤ 122 ∨ 65 ≤ c ∧ c ≤ 90) := by simp [letterI]
set_option maxHeartbeats 400000 in
theorem letter_any (c : Int) (w : World) : Calls Try.prog 118 #[.int .u8 c] w fun e w' => e = .returned (.bool (letterI c)) ∧ w = w' := by
  by_cases h1 : 97 ≤ c <;> by_cases h2 : c ≤ 122 <;> by_cases h3 : 65 ≤ c <;> by_cases h4 : c ≤ 90 <;> first | omega | (go_enter Try.func118, Try.ntmps118; go_wp2; go_ret; exact ⟨ret_bool (by simp [letterI] <;> omega), rfl⟩)
set_option maxHeartbeats 800000 in
theorem part_any (c : Int) (w : World) : Calls Try.prog 120 #[.int .u8 c] w fun e w' => e = .returned (.bool (partI c)) ∧ w = w' := by
  have hp : partI c = (letterI c || decide (48 ≤ c) && decide (c ≤ 57) || (c == 95)) := by rw [Bool.eq_iff_iff]; simp [partI]
  have HP := Lib.hid hp
  clear hp
  cases h0 : letterI c <;> by_cases h1 : 48 ≤ c <;> by_cases h2 : c ≤ 57 <;> cases h3 : c == 95 <;> (
    go_enter Try.func120, Try.ntmps120
    go_wp2_with fail
    refine (letter_any c _).mono ?_
    rintro e w' ⟨rfl, rfl⟩
    go_wp2_with fail
    all_goals (go_ret; exact ⟨ret_bool (by rw [HP.out]; simp [h0, h1, h2, h3]), rfl⟩))
set_option maxHeartbeats 800000 in
theorem quoted_any (c : Int) (w : World) : Calls Try.prog 121 #[.int .u8 c] w fun e w' => e = .returned (.bool (quotedI c)) ∧ w = w' := by
  have hp : quotedI c = (decide (32 ≤ c) && decide (c ≤ 126) && (c != 39)) := by rw [Bool.eq_iff_iff]; simp [quotedI]
  have HP := Lib.hid hp
  clear hp
  by_cases h1 : 32 ≤ c <;> by_cases h2 : c ≤ 126 <;> cases h3 : c != 39 <;> (
    go_enter Try.func121, Try.ntmps121
    go_wp2_with fail
    all_goals (go_ret; exact ⟨ret_bool (by rw [HP.out]; simp [h1, h2, h3]), rfl⟩))

theorem cf120 : ∀ args W, (callFunc 120 args).run Try.prog W = .ok (.enter 120 args) W := by
  intro args W; simp [callFunc, go_sem, Try.func120]; rfl
theorem cf121 : ∀ args W, (callFunc 121 args).run Try.prog W = .ok (.enter 121 args) W := by
  intro args W; simp [callFunc, go_sem, Try.func121]; rfl
/-- How many bytes from the first one on are such. -/
def runL (p : Int → Bool) (l : List UInt8) : Nat := (l.takeWhile fun b => p b.toNat).length
theorem runL_drop {p : Int → Bool} {l : List UInt8} {k : Nat} (h : k ≤ runL p l) : runL p l = k + runL p (l.drop k) := by
  induction k generalizing l with
  | zero => simp
  | succ k ih =>
    cases l with
    | nil => simp [runL] at h
    | cons b l =>
      unfold runL at h ⊢
      by_cases hp : p b.toNat = true
      · simp only [List.takeWhile_cons, hp, if_true, List.length_cons] at h ⊢
        have := ih (l := l) (by unfold runL; omega)
        unfold runL at this
        simp only [List.drop_succ_cons]
        omega
      · simp only [List.takeWhile_cons, hp] at h
        simp at h
theorem runL_le (p : Int → Bool) (l : List UInt8) : runL p l ≤ l.length := by
  unfold runL; exact (List.takeWhile_sublist _).length_le
theorem bytes_drop (s : ByteArray) (k : Nat) (h : k < s.size) : s.data.toList.drop k = s[k] :: s.data.toList.drop (k + 1) := by
  have hl : k < s.data.toList.length := by rw [data_length]; exact h
  rw [List.drop_eq_getElem_cons hl]; rfl
theorem runL_hit {p : Int → Bool} {s : ByteArray} {k : Nat} (hlt : k < s.size) (h : k ≤ runL p s.data.toList) (hp : p (s[k].toNat) = true) : k + 1 ≤ runL p s.data.toList := by
  rw [runL_drop h, bytes_drop s k hlt]
  simp [runL, hp]
theorem runL_miss {p : Int → Bool} {s : ByteArray} {k : Nat} (hlt : k < s.size) (h : k ≤ runL p s.data.toList) (hp : p (s[k].toNat) = false) : runL p s.data.toList = k := by
  rw [runL_drop h, bytes_drop s k hlt]
  simp [runL, hp]
theorem runL_end {p : Int → Bool} {s : ByteArray} {k : Nat} (hlt : ¬ k < s.size) (h : k ≤ runL p s.data.toList) : runL p s.data.toList = k := by
  have := runL_le p s.data.toList
  rw [data_length] at this
  omega
set_option maxHeartbeats 400000 in
theorem run_any (F : Nat) (p : Int → Bool) (s : ByteArray) (w : World) (hs : s.size ≤ 9223372036854775807)
    (hcf : ∀ args W, (callFunc F args).run Try.prog W = .ok (.enter F args) W)
    (hF : ∀ (c : Int) W, Calls Try.prog F #[.int .u8 c] W fun e w' => e = .returned (.bool (p c)) ∧ W = w') :
    Calls Try.prog 119 #[.string s, .func (.func F) #[] #[]] w fun e w' => e = .returned (.int .i64 (runL p s.data.toList)) ∧ w = w' := by
  have HF := Lib.hid hF
  clear hF
  go_enter Try.func119, Try.ntmps119
  go_wp2_with fail
  go_loopw [5] (fun i wr => ∃ k : Nat, k ≤ s.size ∧ i = .int .i64 k ∧ k ≤ runL p s.data.toList ∧ w = wr) (fun i _ => s.size - (intOf i).toNat)
  case atStart => exact ⟨0, Nat.zero_le _, rfl, Nat.zero_le _, rfl⟩
  case round =>
    obtain ⟨k, hk, rfl, hr, rfl⟩ := hrel
    by_cases hlt : k < s.size
    · go_wp2_with fail
      refine (HF.out _ _).mono ?_
      rintro e w' ⟨rfl, rfl⟩
      cases hp : p (s[k].toNat)
      · have HE := Lib.hid (runL_miss hlt hr hp)
        go_wp2_with fail
        go_ret
        refine ⟨ret_int (by rw [HE.out]), ?_⟩
        first | rfl | trivial
      · have HE := Lib.hid (runL_hit hlt hr hp)
        go_wp2_with fail
        go_roundw
        case rel => exact ⟨k + 1, by omega, by go_num, HE.out, by trivial⟩
        case measure => simp [intOf]; omega
    · have HE := Lib.hid (runL_end hlt hr)
      go_wp2_with fail
      go_ret
      refine ⟨ret_int (by rw [HE.out]), ?_⟩
      first | rfl | trivial
end Go.Proofs.Ytoiejgmfgcdniaa
namespace Go.Proofs.Ytoiejgmfgcdniaa
open Go.RowKit Go.Proofs.YtoiejgmfgcdniaaW.PrintWords

def lineLen (l : List UInt8) : Nat := (l.takeWhile (· != 10)).length
theorem lineLen_le (l : List UInt8) : lineLen l ≤ l.length := (List.takeWhile_sublist _).length_le
theorem lineLen_index (l : List UInt8) : Lib.indexByte l 10 = if lineLen l = l.length then -1 else (lineLen l : Int) := by
  induction l with
  | nil => simp [Lib.indexByte, lineLen]
  | cons b l ih =>
    have hle := lineLen_le l
    unfold Lib.indexByte
    by_cases hb : b = 10
    · subst hb; simp [lineLen]
    · have h1 : lineLen (b :: l) = lineLen l + 1 := by simp [lineLen, hb]
      rw [h1, ih]
      simp only [List.length_cons, beq_iff_eq, hb, if_false]
      by_cases h2 : lineLen l = l.length
      · simp [h2]
      · simp [h2]
set_option maxHeartbeats 400000 in
theorem cut_any (s : ByteArray) (w : World) (hs : s.size ≤ 4000) : Calls Try.prog 158 #[.string s, .string ⟨#[10]⟩] w fun e w' => ∃ b r f, e = .returned (.tuple #[.string b, .string r, .bool f]) ∧ b.size = lineLen s.data.toList ∧ Below w.heap.size w w' := by
  have hi := lineLen_index s.data.toList
  have hle := lineLen_le s.data.toList
  rw [data_length] at hi hle
  by_cases h : lineLen s.data.toList = s.size
  · rw [if_pos h] at hi
    have HI := Lib.hid hi
    have HL := Lib.hid h
    clear hi h
    go_enter Try.func158, Try.ntmps158
    go_wp2_with fail
    refine (Try.stringslite_Index_one s 10 w).mono ?_
    rintro e w' ⟨rfl, rfl⟩
    rw [HI.out]
    go_wp2_with fail
    go_ret3
    exact ⟨s, _, _, rfl, HL.out.symm, Below.refl _ _⟩
  · rw [if_neg h] at hi
    have hlt : lineLen s.data.toList < s.size := by omega
    generalize lineLen s.data.toList = n at *
    have HI := Lib.hid hi
    clear hi h
    go_enter Try.func158, Try.ntmps158
    go_wp2_with fail
    refine (Try.stringslite_Index_one s 10 w).mono ?_
    rintro e w' ⟨rfl, rfl⟩
    rw [HI.out]
    go_wp2_with fail
    go_quiet (fail)
    go_wp2_with fail
    go_ret3
    exact ⟨s.extract 0 n, s.extract (n + 1) s.size, true, rfl, by simp; omega, pw_below_drewN (Below.refl _ _) _⟩
set_option maxHeartbeats 400000 in
theorem strCut_any (s : ByteArray) (w : World) (hs : s.size ≤ 4000) : Calls Try.prog 117 #[.string s, .string ⟨#[10]⟩] w fun e w' => ∃ b r f, e = .returned (.tuple #[.string b, .string r, .bool f]) ∧ b.size = lineLen s.data.toList ∧ Below w.heap.size w w' := by
  generalize hn : lineLen s.data.toList = n
  have HN := Lib.hid hn
  clear hn
  go_enter Try.func117, Try.ntmps117
  go_wp2_with fail
  refine (cut_any s w hs).mono ?_
  rintro e w' ⟨b, r, f, rfl, hl, hb⟩
  have HL := Lib.hid hl
  clear hl
  go_wp2_with fail
  go_ret3
  exact ⟨b, r, f, rfl, HL.out.trans HN.out, hb⟩
end Go.Proofs.Ytoiejgmfgcdniaa
namespace Go.Proofs.Ytoiejgmfgcdniaa
open Go.RowKit Go.Proofs.YtoiejgmfgcdniaaW.PrintWords

def bs (l : List UInt8) : ByteArray := ⟨l.toArray⟩
theorem bs_data (l : List UInt8) : (bs l).data.toList = l := rfl
theorem bs_size (l : List UInt8) : (bs l).size = l.length := rfl
theorem bs_of (s : ByteArray) : bs s.data.toList = s := rfl
def marksL : List UInt8 := [58, 59, 124, 40, 41, 42, 43, 63]
/-- The first token's kind and text, or 0 of what stands between tokens; and how many bytes it takes. -/
def firstL : List UInt8 → Int × List UInt8 × Nat
  | [] => (0, [], 0)
  | c :: r =>
    if c = 35 then (0, [], lineLen (c :: r))
    else if c = 13 ∨ c = 32 ∨ c = 9 ∨ c = 10 then (0, [], 1)
    else if letterI c.toNat = true then (1, (c :: r).take (runL partI (c :: r)), runL partI (c :: r))
    else if c = 39 then (if runL quotedI r = 0 ∨ runL quotedI r = r.length ∨ r[runL quotedI r]? ≠ some 39 then (0, [], 0) else (2, r.take (runL quotedI r), runL quotedI r + 2))
    else if c ∈ marksL then (3, [c], 1) else (0, [], 0)
def FirstPost (s : ByteArray) (w : World) (e : Ending) (w' : World) : Prop :=
  e = .returned (.tuple #[.int .i64 (firstL s.data.toList).1, .string (bs (firstL s.data.toList).2.1), .int .i64 (firstL s.data.toList).2.2]) ∧ Below w.heap.size w w'
theorem FirstPost.mk {s : ByteArray} {w w' : World} {k : Int} {t : ByteArray} {n : Int} {t' : List UInt8} {n' : Nat} (h : firstL s.data.toList = (k, t', n')) (ht : t.data.toList = t') (hn : n = n') (hb : Below w.heap.size w w') :
    FirstPost s w (.returned (.tuple #[.int .i64 k, .string t, .int .i64 n])) w' := by
  subst hn
  unfold FirstPost
  rw [h, ← ht]
  exact ⟨rfl, hb⟩
theorem u8eq (c : UInt8) (n : Nat) (hn : n < 256) : ((c.toNat : Int) == (n : Int)) = decide (c = UInt8.ofNat n) := by
  rw [Bool.eq_iff_iff]
  simp only [beq_iff_eq, decide_eq_true_eq]
  constructor
  · intro h
    apply UInt8.toNat_inj.1
    rw [UInt8.toNat_ofNat']
    omega
  · intro h
    subst h
    rw [UInt8.toNat_ofNat']
    omega
set_option maxHeartbeats 1000000 in
theorem first_line (s : ByteArray) (w : World) (hp : 0 < s.size) (hs : s.size ≤ 4000) (hc : s[0] = 35) :
    Calls Try.prog 69 #[.string s] w (FirstPost s w) := by
  have h35 : ((s[0].toNat : Int) == 35) = true := by rw [hc]; rfl
  have hf : firstL s.data.toList = (0, [], lineLen s.data.toList) := by
    have := bytes_drop s 0 hp
    simp only [List.drop_zero] at this
    rw [this, hc]
    simp [firstL]
  have HF := Lib.hid hf
  clear hf hc
  go_enter Try.func69, Try.ntmps69
  go_wp2_with fail
  refine (strCut_any s _ hs).mono ?_
  rintro e w' ⟨b, r, f, rfl, hl, hb⟩
  have HL := Lib.hid hl
  clear hl
  go_wp2_with fail
  go_ret3
  exact FirstPost.mk HF.out rfl (by rw [HL.out]) hb
theorem hd0 (s : ByteArray) (hp : 0 < s.size) : s.data.toList = s[0] :: s.data.toList.drop 1 := by
  have := bytes_drop s 0 hp
  simpa only [List.drop_zero] using this
theorem u8test {c d : UInt8} (h : c = d) (n : Int) {b : Bool} (hb : ((d.toNat : Int) == n) = b) : ((c.toNat : Int) == n) = b := by rw [h, hb]
theorem u8not {c d : UInt8} (h : c ≠ d) (n : Int) (hn : (d.toNat : Int) = n) : ((c.toNat : Int) == n) = false := by
  rw [← hn, beq_eq_false_iff_ne]
  intro h2
  exact h (UInt8.toNat_inj.1 (by omega))
set_option maxHeartbeats 1000000 in
theorem first_blank (s : ByteArray) (w : World) (hp : 0 < s.size) (hc : s[0] = 13 ∨ s[0] = 32 ∨ s[0] = 9 ∨ s[0] = 10) :
    Calls Try.prog 69 #[.string s] w (FirstPost s w) := by
  have hf : firstL s.data.toList = (0, [], 1) := by
    rw [hd0 s hp]
    rcases hc with h | h | h | h <;> simp [firstL, h]
  have HF := Lib.hid hf
  clear hf
  rcases hc with h | h | h | h
  · have t1 := u8test h 35 rfl
    have t2 := u8test h 13 rfl
    clear h
    go_enter Try.func69, Try.ntmps69; go_wp2_with fail; go_ret3; exact FirstPost.mk HF.out rfl rfl (Below.refl _ _)
  · have t1 := u8test h 35 rfl
    have t2 := u8test h 13 rfl
    have t3 := u8test h 32 rfl
    clear h
    go_enter Try.func69, Try.ntmps69; go_wp2_with fail; go_ret3; exact FirstPost.mk HF.out rfl rfl (Below.refl _ _)
  · have t1 := u8test h 35 rfl
    have t2 := u8test h 13 rfl
    have t3 := u8test h 32 rfl
    have t4 := u8test h 9 rfl
    clear h
    go_enter Try.func69, Try.ntmps69; go_wp2_with fail; go_ret3; exact FirstPost.mk HF.out rfl rfl (Below.refl _ _)
  · have t1 := u8test h 35 rfl
    have t2 := u8test h 13 rfl
    have t3 := u8test h 32 rfl
    have t4 := u8test h 9 rfl
    have t5 := u8test h 10 rfl
    clear h
    go_enter Try.func69, Try.ntmps69; go_wp2_with fail; go_ret3; exact FirstPost.mk HF.out rfl rfl (Below.refl _ _)
set_option maxHeartbeats 1000000 in
theorem first_name (s : ByteArray) (w : World) (hp : 0 < s.size) (hs : s.size ≤ 4000) (h1 : s[0] ≠ 35) (h2 : s[0] ≠ 13) (h3 : s[0] ≠ 32) (h4 : s[0] ≠ 9) (h5 : s[0] ≠ 10) (h6 : letterI s[0].toNat = true) :
    Calls Try.prog 69 #[.string s] w (FirstPost s w) := by
  have hr := runL_le partI s.data.toList
  rw [data_length] at hr
  have hf : firstL s.data.toList = (1, s.data.toList.take (runL partI s.data.toList), runL partI s.data.toList) := by
    rw [hd0 s hp]
    simp [firstL, h1, h2, h3, h4, h5, h6]
  generalize hn : runL partI s.data.toList = n at *
  have HF := Lib.hid hf
  have HN := Lib.hid hn
  clear hf hn
  have t1 := u8not h1 35 rfl
  have t2 := u8not h2 13 rfl
  have t3 := u8not h3 32 rfl
  have t4 := u8not h4 9 rfl
  have t5 := u8not h5 10 rfl
  clear h1 h2 h3 h4 h5
  go_enter Try.func69, Try.ntmps69
  go_wp2_with fail
  refine (letter_any _ _).mono ?_
  rintro e w' ⟨rfl, rfl⟩
  go_wp2_with fail
  refine (run_any 120 partI s _ (by omega) cf120 part_any).mono ?_
  rintro e w' ⟨rfl, rfl⟩
  rw [HN.out]
  go_wp2_with fail
  go_quiet (fail)
  go_wp2_with fail
  go_ret3
  exact FirstPost.mk HF.out (by simp) rfl (pw_below_drewN (Below.refl _ _) _)
theorem extract_list (s : ByteArray) (a b : Nat) : (s.extract a b).data.toList = (s.data.toList.take b).drop a := by
  rw [ByteArray.data_extract, Array.toList_extract, List.extract_eq_take_drop, List.drop_take]
theorem extract1 (s : ByteArray) : (s.extract 1 s.size).data.toList = s.data.toList.drop 1 := by
  rw [extract_list, List.take_of_length_le (by rw [data_length]; exact Nat.le_refl _)]
theorem extract_dt (s : ByteArray) (a n : Nat) : (s.extract a (n + a)).data.toList = (s.data.toList.drop a).take n := by
  rw [extract_list, List.drop_take, Nat.add_sub_cancel]
set_option maxHeartbeats 1000000 in
theorem first_quote (s : ByteArray) (w : World) (hp : 0 < s.size) (hs : s.size ≤ 4000) (hc : s[0] = 39) :
    Calls Try.prog 69 #[.string s] w (FirstPost s w) := by
  have hr := runL_le quotedI (s.data.toList.drop 1)
  rw [List.length_drop, data_length] at hr
  have hz : (s.data.toList.drop 1).length = s.size - 1 := by rw [List.length_drop, data_length]
  have hx : (s.extract 1 s.size).data.toList = s.data.toList.drop 1 := extract1 s
  generalize hn : runL quotedI (s.data.toList.drop 1) = n at *
  have hf : firstL s.data.toList = if n = 0 ∨ n = s.size - 1 ∨ (s.data.toList.drop 1)[n]? ≠ some 39 then (0, [], 0) else (2, (s.data.toList.drop 1).take n, n + 2) := by
    conv => lhs; rw [hd0 s hp, hc]
    simp only [firstL]
    rw [if_neg (by decide), if_neg (by decide), if_neg (by decide), if_pos trivial, hn, hz]
  have hg : ∀ h : n + 1 < s.size, (s.data.toList.drop 1)[n]? = some s[n + 1] := by
    intro h
    rw [List.getElem?_drop, Nat.add_comm 1 n, List.getElem?_eq_getElem (by rw [data_length]; exact h)]
    rfl
  have HX := Lib.hid hx
  have HN := Lib.hid hn
  clear hx hn
  have t1 := u8test hc 35 rfl
  have t2 := u8test hc 13 rfl
  have t3 := u8test hc 32 rfl
  have t4 := u8test hc 9 rfl
  have t5 := u8test hc 10 rfl
  have t6 := u8test hc 39 rfl
  have tl : letterI s[0].toNat = false := by rw [hc]; rfl
  clear hc hz
  by_cases h0 : n = 0
  · rw [if_pos (.inl h0)] at hf
    subst h0
    have HF := Lib.hid hf
    clear hf hg
    go_enter Try.func69, Try.ntmps69
    go_wp2_with (first | (go_at_call 118; refine (letter_any _ _).mono ?_; rintro e w' ⟨rfl, rfl⟩) | (go_at_call 119; refine (run_any 121 quotedI _ _ (by simp; omega) cf121 quoted_any).mono ?_; rintro e w' ⟨rfl, rfl⟩; rw [HX.out, HN.out]))
    go_ret3
    exact FirstPost.mk HF.out rfl rfl (Below.refl _ _)
  · by_cases h1 : n + 1 = s.size
    · rw [if_pos (.inr (.inl (by omega)))] at hf
      have HF := Lib.hid hf
      clear hf hg
      have b0 : ((n : Int) == 0) = false := beq_eq_false_iff_ne.2 (by omega)
      have b1 : ((n : Int) + 1 == (s.size : Int)) = true := beq_iff_eq.2 (by omega)
      have H1 := Lib.hid h1
      clear h1
      go_enter Try.func69, Try.ntmps69
      go_wp2_with (first | (go_at_call 118; refine (letter_any _ _).mono ?_; rintro e w' ⟨rfl, rfl⟩) | (go_at_call 119; refine (run_any 121 quotedI _ _ (by simp; omega) cf121 quoted_any).mono ?_; rintro e w' ⟨rfl, rfl⟩; rw [HX.out, HN.out]))
      go_ret3
      exact FirstPost.mk HF.out rfl rfl (Below.refl _ _)
    · have hlt : n + 1 < s.size := by omega
      rw [hg hlt] at hf
      have b0 : ((n : Int) == 0) = false := beq_eq_false_iff_ne.2 (by omega)
      have b1 : ((n : Int) + 1 == (s.size : Int)) = false := beq_eq_false_iff_ne.2 (by omega)
      by_cases h2 : s[n + 1] = 39
      · rw [if_neg (by rw [h2]; simp; omega)] at hf
        have HF := Lib.hid hf
        have t7 : ((s[n + 1].toNat : Int) != 39) = false := by rw [h2]; rfl
        clear hf hg h2
        go_enter Try.func69, Try.ntmps69
        go_wp2_with (first | (go_at_call 118; refine (letter_any _ _).mono ?_; rintro e w' ⟨rfl, rfl⟩) | (go_at_call 119; refine (run_any 121 quotedI _ _ (by simp; omega) cf121 quoted_any).mono ?_; rintro e w' ⟨rfl, rfl⟩; rw [HX.out, HN.out]))
        go_quiet (fail)
        go_wp2_with fail
        go_ret3
        exact FirstPost.mk HF.out (extract_dt s 1 n) (by omega) (pw_below_drewN (Below.refl _ _) _)
      · rw [if_pos (.inr (.inr (by simpa using h2)))] at hf
        have HF := Lib.hid hf
        have t7 : ((s[n + 1].toNat : Int) != 39) = true := by have := u8not h2 39 rfl; simp [bne, this]
        clear hf hg h2
        go_enter Try.func69, Try.ntmps69
        go_wp2_with (first | (go_at_call 118; refine (letter_any _ _).mono ?_; rintro e w' ⟨rfl, rfl⟩) | (go_at_call 119; refine (run_any 121 quotedI _ _ (by simp; omega) cf121 quoted_any).mono ?_; rintro e w' ⟨rfl, rfl⟩; rw [HX.out, HN.out]))
        go_ret3
        exact FirstPost.mk HF.out rfl rfl (Below.refl _ _)
theorem marks_index (c : UInt8) : (0 ≤ Lib.indexByte marksL c ↔ c ∈ marksL) := by
  simp only [marksL, Lib.indexByte]
  constructor
  · intro h
    by_cases h1 : 58 = c
    · simp [h1]
    by_cases h2 : 59 = c
    · simp [h2]
    by_cases h3 : 124 = c
    · simp [h3]
    by_cases h4 : 40 = c
    · simp [h4]
    by_cases h5 : 41 = c
    · simp [h5]
    by_cases h6 : 42 = c
    · simp [h6]
    by_cases h7 : 43 = c
    · simp [h7]
    by_cases h8 : 63 = c
    · simp [h8]
    simp [h1, h2, h3, h4, h5, h6, h7, h8] at h
  · intro h
    simp only [List.mem_cons, List.not_mem_nil, or_false] at h
    rcases h with h | h | h | h | h | h | h | h <;> subst h <;> decide
set_option maxHeartbeats 1000000 in
theorem first_rest (s : ByteArray) (w : World) (hp : 0 < s.size) (hs : s.size ≤ 4000) (h1 : s[0] ≠ 35) (h2 : s[0] ≠ 13) (h3 : s[0] ≠ 32) (h4 : s[0] ≠ 9) (h5 : s[0] ≠ 10) (h6 : letterI s[0].toNat = false) (h7 : s[0] ≠ 39) :
    Calls Try.prog 69 #[.string s] w (FirstPost s w) := by
  have hf : firstL s.data.toList = if s[0] ∈ marksL then ((3, [s[0]], 1) : Int × List UInt8 × Nat) else (0, [], 0) := by
    rw [hd0 s hp]
    simp [firstL, h1, h2, h3, h4, h5, h6, h7]
  have hm := marks_index s[0]
  have hc : (s[0].toNat : Int).toNat.toUInt8 = s[0] := by simp
  have hx : [s[0]] = (s.extract 0 1).data.toList := by
    rw [extract_list, List.drop_zero]
    conv => rhs; rw [hd0 s hp]
    rfl
  have t1 := u8not h1 35 rfl
  have t2 := u8not h2 13 rfl
  have t3 := u8not h3 32 rfl
  have t4 := u8not h4 9 rfl
  have t5 := u8not h5 10 rfl
  have t6 := u8not h7 39 rfl
  have HX := Lib.hid hx
  obtain ⟨q, hq⟩ : ∃ q, Lib.indexByte (⟨#[58, 59, 124, 40, 41, 42, 43, 63]⟩ : ByteArray).data.toList (s[0].toNat : Int).toNat.toUInt8 = q := ⟨_, rfl⟩
  have hq2 : Lib.indexByte marksL s[0] = q := by rw [← hq, hc]; rfl
  rw [hq2] at hm
  have HQ := Lib.hid hq
  clear h1 h2 h3 h4 h5 h7 hc hx hq hq2
  by_cases hmem : s[0] ∈ marksL
  · rw [if_pos hmem] at hf
    have HF := Lib.hid hf
    have hge : 0 ≤ q := hm.2 hmem
    clear hf hm hmem
    go_enter Try.func69, Try.ntmps69
    go_wp2_with (go_at_call 118; refine (letter_any _ _).mono ?_; rintro e w' ⟨rfl, rfl⟩)
    refine (Try.strings_IndexByte _ _ _).mono ?_
    rintro e w' ⟨rfl, rfl⟩
    rw [HQ.out]
    go_wp2_with fail
    go_quiet (fail)
    go_wp2_with fail
    go_ret3
    exact FirstPost.mk HF.out HX.out.symm rfl (pw_below_drewN (Below.refl _ _) _)
  · rw [if_neg hmem] at hf
    have HF := Lib.hid hf
    have hge : q < 0 := by have := mt hm.1 hmem; omega
    clear hf hm hmem
    go_enter Try.func69, Try.ntmps69
    go_wp2_with (go_at_call 118; refine (letter_any _ _).mono ?_; rintro e w' ⟨rfl, rfl⟩)
    refine (Try.strings_IndexByte _ _ _).mono ?_
    rintro e w' ⟨rfl, rfl⟩
    rw [HQ.out]
    go_wp2_with fail
    go_ret3
    exact FirstPost.mk HF.out rfl rfl (Below.refl _ _)
theorem first_any (s : ByteArray) (w : World) (hp : 0 < s.size) (hs : s.size ≤ 4000) : Calls Try.prog 69 #[.string s] w (FirstPost s w) := by
  by_cases h1 : s[0] = 35
  · exact first_line s w hp hs h1
  by_cases h2 : s[0] = 13
  · exact first_blank s w hp (.inl h2)
  by_cases h3 : s[0] = 32
  · exact first_blank s w hp (.inr (.inl h3))
  by_cases h4 : s[0] = 9
  · exact first_blank s w hp (.inr (.inr (.inl h4)))
  by_cases h5 : s[0] = 10
  · exact first_blank s w hp (.inr (.inr (.inr h5)))
  cases h6 : letterI s[0].toNat with
  | true => exact first_name s w hp hs h1 h2 h3 h4 h5 h6
  | false =>
    by_cases h7 : s[0] = 39
    · exact first_quote s w hp hs h7
    · exact first_rest s w hp hs h1 h2 h3 h4 h5 h6 h7
end Go.Proofs.Ytoiejgmfgcdniaa
namespace Go.Proofs.Ytoiejgmfgcdniaa
open Go.RowKit Go.Proofs.YtoiejgmfgcdniaaW.PrintWords

theorem info65 : (Try.prog.info? 65).map (fun i => (i.zero, i.size, i.bytes)) = some (some (.agg #[.int .i64 0, .string ⟨#[]⟩, .int .i64 0]), 3, 32) := by kernel_rfl
/-- The tokens from a place on. -/
def scanGo : Nat → Nat → List UInt8 → List Tok → List Tok × Int × Int
  | 0, _, _, acc => (acc, 0, 0)
  | f + 1, pos, l, acc =>
    if l = [] then (acc, 0, 0)
    else if (firstL l).2.2 = 0 then ([], pos, 2)
    else scanGo f (pos + (firstL l).2.2) (l.drop (firstL l).2.2) (if 0 < (firstL l).1 then acc ++ [⟨(firstL l).1, bs (firstL l).2.1, pos⟩] else acc)
def scanL (l : List UInt8) : List Tok × Int × Int := if l.length > 4000 then ([], 0, 5) else scanGo (l.length + 1) 0 l []
theorem firstL_le (l : List UInt8) : (firstL l).2.2 ≤ l.length := by
  cases l with
  | nil => simp [firstL]
  | cons c r =>
    simp only [firstL]
    have h1 := lineLen_le (c :: r)
    have h2 := runL_le partI (c :: r)
    have h3 := runL_le quotedI r
    repeat' split
    all_goals simp at *
    all_goals first | omega | skip
def ScanPost (R : List Tok × Int × Int) (w : World) (e : Ending) (w' : World) : Prop :=
  ∃ A c, e = .returned (.tuple #[.slice A R.1.length c, .int .i64 R.2.1, .int .i64 R.2.2]) ∧ R.1.length ≤ c ∧ Kd.C kTok w' A R.1.length R.1 ∧ Below w.heap.size w w'
theorem extract_drop (s : ByteArray) (a : Nat) : (s.extract a s.size).data.toList = s.data.toList.drop a := by
  rw [extract_list, List.take_of_length_le (by rw [data_length]; exact Nat.le_refl _)]
set_option maxHeartbeats 1000000 in
theorem scan_any (s : ByteArray) (w : World) : Calls Try.prog 26 #[.string s] w (ScanPost (scanL s.data.toList) w) := by
  by_cases hb : 4000 < s.size
  · have hq : scanL s.data.toList = ([], 0, 5) := by unfold scanL; rw [if_pos (by rw [data_length]; exact hb)]
    rw [hq]
    clear hq
    go_enter Try.func26, Try.ntmps26
    go_wp2_with fail
    go_ret3
    exact ⟨none, 0, rfl, Nat.le_refl _, Kd.C_nil _ _, Below.refl _ _⟩
  · have hq : scanL s.data.toList = scanGo (s.size + 1) 0 s.data.toList [] := by unfold scanL; rw [if_neg (by rw [data_length]; exact hb), data_length]
    generalize scanL s.data.toList = R at hq
    have HQ := Lib.hid hq
    clear hq
    go_enter Try.func26, Try.ntmps26
    go_wp2_with fail
    go_loopw [5, 6] (fun v i wr => ∃ (k f : Nat) (acc : List Tok), k ≤ s.size ∧ i = .int .i64 k ∧ s.size - k < f ∧ acc.length ≤ k ∧ Hid (R = scanGo f k (s.data.toList.drop k) acc) ∧ Kd.R kTok 65 wr w.heap.size (fun _ => True) v acc ∧ Below w.heap.size w wr) (fun _ i _ => s.size - (intOf i).toNat)
    case atStart => exact ⟨0, s.size + 1, [], Nat.zero_le _, rfl, by omega, Nat.le_refl _, HQ, Kd.R_nil _ _ _ _ _, Below.refl _ _⟩
    case round =>
      clear HQ
      obtain ⟨k, f, acc, hk, rfl, hf, ha, HS, hO, hB⟩ := hrel
      have HO := Lib.hid hO
      clear hO
      by_cases hlt : k < s.size
      · obtain ⟨f, rfl⟩ : ∃ m, f = m + 1 := ⟨f - 1, by omega⟩
        have hne : s.data.toList.drop k ≠ [] := by intro h; have := congrArg List.length h; rw [List.length_drop, data_length] at this; simp at this; omega
        have hle := firstL_le (s.data.toList.drop k)
        have hsc := HS
        unfold RowKit.Hid at hsc
        rw [scanGo, if_neg hne] at hsc
        rw [List.length_drop, data_length] at hle
        clear HS hne
        obtain ⟨⟨K, T, N⟩, hq⟩ : ∃ q, firstL (s.data.toList.drop k) = q := ⟨_, rfl⟩
        rw [hq] at hsc hle
        simp only [List.drop_drop] at hsc hle
        have HQ := Lib.hid hq
        clear hq
        by_cases hN : N = 0
        · rw [if_pos hN] at hsc
          subst hN
          have HSC := Lib.hid hsc
          clear hsc
          go_wp2_with fail
          refine (first_any (s.extract k s.size) _ (by simp; omega) (by simp; omega)).mono ?_
          intro e w' hP
          unfold FirstPost at hP
          rw [extract_drop, HQ.out] at hP
          obtain ⟨rfl, hb⟩ := hP
          go_wp2_with fail
          go_ret3
          rw [HSC.out]
          exact ⟨none, 0, rfl, Nat.le_refl _, Kd.C_nil _ _, blw hB hb⟩
        · rw [if_neg hN] at hsc
          have b0 : ((N : Int) == 0) = false := beq_eq_false_iff_ne.2 (by omega)
          by_cases hK : 0 < K
          · rw [if_pos hK] at hsc
            have HSC := Lib.hid hsc
            clear hsc
            go_wp2_with fail
            refine (first_any (s.extract k s.size) _ (by simp; omega) (by simp; omega)).mono ?_
            intro e w' hP
            unfold FirstPost at hP
            rw [extract_drop, HQ.out] at hP
            obtain ⟨rfl, hb⟩ := hP
            have HO1 := Lib.hid (Kd.R_below HO.out hb)
            have hB1 := blw hB hb
            clear hb hB HO
            go_wp2_with (at_builtin; refine Kd.R_append kTok (w0 := w) w.heap.size rfl (.tmp 30) (.tmp 35) 61 65 _ 32 rfl Try.underlying61 info65 rfl (by decide) (by omega) _ acc ⟨K, bs T, k⟩ [.int .i64 K, .string (bs T), .int .i64 k] (fun _ => True) (fun _ => False) rfl rfl (kTok_mkM _ _ _ ⟨K, bs T, k⟩) (fun _ hk => hk.elim) (fun _ _ => trivial) HO1.out hB1 hB1.size (by omega) ?_; intro v1 w1 ho hb1 hg _)
            have HO2 := Lib.hid ho
            clear ho HO1
            go_wp2_with fail
            go_roundw
            case rel => exact ⟨k + N, f, acc ++ [⟨K, bs T, k⟩], by omega, by go_num, by omega, by simp; omega, HSC, HO2.out, hb1⟩
            case measure => simp [intOf]; omega
          · rw [if_neg hK] at hsc
            have HSC := Lib.hid hsc
            clear hsc
            go_wp2_with fail
            refine (first_any (s.extract k s.size) _ (by simp; omega) (by simp; omega)).mono ?_
            intro e w' hP
            unfold FirstPost at hP
            rw [extract_drop, HQ.out] at hP
            obtain ⟨rfl, hb⟩ := hP
            go_wp2_with fail
            go_roundw
            case rel => exact ⟨k + N, f, acc, by omega, by go_num, by omega, by omega, HSC, Kd.R_below HO.out hb, blw hB hb⟩
            case measure => simp [intOf]; omega
      · obtain ⟨f, rfl⟩ : ∃ m, f = m + 1 := ⟨f - 1, by omega⟩
        have hne : s.data.toList.drop k = [] := List.drop_eq_nil_of_le (by rw [data_length]; omega)
        have hsc := HS
        unfold RowKit.Hid at hsc
        rw [scanGo, if_pos hne] at hsc
        have HSC := Lib.hid hsc
        clear hsc HS hne
        obtain ⟨A, c, rfl, hlc, hC⟩ := Kd.R_reads HO.out
        have HC := Lib.hid hC
        clear hC
        go_wp2_with fail
        go_ret3
        rw [HSC.out]
        exact ⟨A, c, rfl, hlc, HC.out, hB⟩
end Go.Proofs.Ytoiejgmfgcdniaa
