import Derived.Test.YtoiejgmfgcdniaaScan2
set_option linter.unusedVariables false
namespace Go.Proofs.Ytoiejgmfgcdniaa
open Go.RowKit Go.Proofs.YtoiejgmfgcdniaaW.PrintWords

def bs (l : List UInt8) : ByteArray := ⟨l.toArray⟩
theorem bs_data (l : List UInt8) : (bs l).data.toList = l := rfl
theorem bs_size (l : List UInt8) : (bs l).size = l.length := rfl
theorem bs_of (s : ByteArray) : bs s.data.toList = s := rfl
def marksL : List UInt8 := [58, 59, 124, 40, 41, 42, 43, 63]
/-- The first token's kind and text, or 0 of what stands between tokens; and how many bytes it takes. -/
def firstL : List UInt8 → Int × List UInt8 × Nat
  | [] => (0, [], 0)
  | c :: r =>
    if c = 35 then (0, [], lineLen (c :: r))
    else if c = 13 ∨ c = 32 ∨ c = 9 ∨ c = 10 then (0, [], 1)
    else if letterI c.toNat = true then (1, (c :: r).take (runL partI (c :: r)), runL partI (c :: r))
    else if c = 39 then (if runL quotedI r = 0 ∨ runL quotedI r = r.length ∨ r[runL quotedI r]? ≠ some 39 then (0, [], 0) else (2, r.take (runL quotedI r), runL quotedI r + 2))
    else if c ∈ marksL then (3, [c], 1) else (0, [], 0)
def FirstPost (s : ByteArray) (w : World) (e : Ending) (w' : World) : Prop :=
  e = .returned (.tuple #[.int .i64 (firstL s.data.toList).1, .string (bs (firstL s.data.toList).2.1), .int .i64 (firstL s.data.toList).2.2]) ∧ Below w.heap.size w w'
theorem FirstPost.mk {s : ByteArray} {w w' : World} {k : Int} {t : ByteArray} {n : Int} {t' : List UInt8} {n' : Nat} (h : firstL s.data.toList = (k, t', n')) (ht : t.data.toList = t') (hn : n = n') (hb : Below w.heap.size w w') :
    FirstPost s w (.returned (.tuple #[.int .i64 k, .string t, .int .i64 n])) w' := by
  subst hn
  unfold FirstPost
  rw [h, ← ht]
  exact ⟨rfl, hb⟩
theorem u8eq (c : UInt8) (n : Nat) (hn : n < 256) : ((c.toNat : Int) == (n : Int)) = decide (c = UInt8.ofNat n) := by
  rw [Bool.eq_iff_iff]
  simp only [beq_iff_eq, decide_eq_true_eq]
  constructor
  · intro h
    apply UInt8.toNat_inj.1
    rw [UInt8.toNat_ofNat']
    omega
  · intro h
    subst h
    rw [UInt8.toNat_ofNat']
    omega
set_option maxHeartbeats 1000000 in
theorem first_line (s : ByteArray) (w : World) (hp : 0 < s.size) (hs : s.size ≤ 4000) (hc : s[0] = 35) :
    Calls Try.prog 69 #[.string s] w (FirstPost s w) := by
  have h35 : ((s[0].toNat : Int) == 35) = true := by rw [hc]; rfl
  have hf : firstL s.data.toList = (0, [], lineLen s.data.toList) := by
    have := bytes_drop s 0 hp
    simp only [List.drop_zero] at this
    rw [this, hc]
    simp [firstL]
  have HF := Lib.hid hf
  clear hf hc
  go_enter Try.func69, Try.ntmps69
  go_wp2_with fail
  refine (strCut_any s _ hs).mono ?_
  rintro e w' ⟨b, r, f, rfl, hl, hb⟩
  have HL := Lib.hid hl
  clear hl
  go_wp2_with fail
  go_ret3
  exact FirstPost.mk HF.out rfl (by rw [HL.out]) hb
theorem hd0 (s : ByteArray) (hp : 0 < s.size) : s.data.toList = s[0] :: s.data.toList.drop 1 := by
  have := bytes_drop s 0 hp
  simpa only [List.drop_zero] using this
theorem u8test {c d : UInt8} (h : c = d) (n : Int) {b : Bool} (hb : ((d.toNat : Int) == n) = b) : ((c.toNat : Int) == n) = b := by rw [h, hb]
theorem u8not {c d : UInt8} (h : c ≠ d) (n : Int) (hn : (d.toNat : Int) = n) : ((c.toNat : Int) == n) = false := by
  rw [← hn, beq_eq_false_iff_ne]
  intro h2
  exact h (UInt8.toNat_inj.1 (by omega))
set_option maxHeartbeats 1000000 in
theorem first_blank (s : ByteArray) (w : World) (hp : 0 < s.size) (hc : s[0] = 13 ∨ s[0] = 32 ∨ s[0] = 9 ∨ s[0] = 10) :
    Calls Try.prog 69 #[.string s] w (FirstPost s w) := by
  have hf : firstL s.data.toList = (0, [], 1) := by
    rw [hd0 s hp]
    rcases hc with h | h | h | h <;> simp [firstL, h]
  have HF := Lib.hid hf
  clear hf
  rcases hc with h | h | h | h
  · have t1 := u8test h 35 rfl
    have t2 := u8test h 13 rfl
    clear h
    go_enter Try.func69, Try.ntmps69; go_wp2_with fail; go_ret3; exact FirstPost.mk HF.out rfl rfl (Below.refl _ _)
  · have t1 := u8test h 35 rfl
    have t2 := u8test h 13 rfl
    have t3 := u8test h 32 rfl
    clear h
    go_enter Try.func69, Try.ntmps69; go_wp2_with fail; go_ret3; exact FirstPost.mk HF.out rfl rfl (Below.refl _ _)
  · have t1 := u8test h 35 rfl
    have t2 := u8test h 13 rfl
    have t3 := u8test h 32 rfl
    have t4 := u8test h 9 rfl
    clear h
    go_enter Try.func69, Try.ntmps69; go_wp2_with fail; go_ret3; exact FirstPost.mk HF.out rfl rfl (Below.refl _ _)
  · have t1 := u8test h 35 rfl
    have t2 := u8test h 13 rfl
    have t3 := u8test h 32 rfl
    have t4 := u8test h 9 rfl
    have t5 := u8test h 10 rfl
    clear h
    go_enter Try.func69, Try.ntmps69; go_wp2_with fail; go_ret3; exact FirstPost.mk HF.out rfl rfl (Below.refl _ _)
set_option maxHeartbeats 1000000 in
theorem first_name (s : ByteArray) (w : World) (hp : 0 < s.size) (hs : s.size ≤ 4000) (h1 : s[0] ≠ 35) (h2 : s[0] ≠ 13) (h3 : s[0] ≠ 32) (h4 : s[0] ≠ 9) (h5 : s[0] ≠ 10) (h6 : letterI s[0].toNat = true) :
    Calls Try.prog 69 #[.string s] w (FirstPost s w) := by
  have hr := runL_le partI s.data.toList
  rw [data_length] at hr
  have hf : firstL s.data.toList = (1, s.data.toList.take (runL partI s.data.toList), runL partI s.data.toList) := by
    rw [hd0 s hp]
    simp [firstL, h1, h2, h3, h4, h5, h6]
  generalize hn : runL partI s.data.toList = n at *
  have HF := Lib.hid hf
  have HN := Lib.hid hn
  clear hf hn
  have t1 := u8not h1 35 rfl
  have t2 := u8not h2 13 rfl
  have t3 := u8not h3 32 rfl
  have t4 := u8not h4 9 rfl
  have t5 := u8not h5 10 rfl
  clear h1 h2 h3 h4 h5
  go_enter Try.func69, Try.ntmps69
  go_wp2_with fail
  refine (letter_any _ _).mono ?_
  rintro e w' ⟨rfl, rfl⟩
  go_wp2_with fail
  refine (run_any 120 partI s _ (by omega) cf120 part_any).mono ?_
  rintro e w' ⟨rfl, rfl⟩
  rw [HN.out]
  go_wp2_with fail
  go_quiet (fail)
  go_wp2_with fail
  go_ret3
  exact FirstPost.mk HF.out (by simp) rfl (pw_below_drewN (Below.refl _ _) _)
theorem extract_list (s : ByteArray) (a b : Nat) : (s.extract a b).data.toList = (s.data.toList.take b).drop a := by
  rw [ByteArray.data_extract, Array.toList_extract, List.extract_eq_take_drop, List.drop_take]
theorem extract1 (s : ByteArray) : (s.extract 1 s.size).data.toList = s.data.toList.drop 1 := by
  rw [extract_list, List.take_of_length_le (by rw [data_length]; exact Nat.le_refl _)]
theorem extract_dt (s : ByteArray) (a n : Nat) : (s.extract a (n + a)).data.toList = (s.data.toList.drop a).take n := by
  rw [extract_list, List.drop_take, Nat.add_sub_cancel]
set_option maxHeartbeats 1000000 in
theorem first_quote (s : ByteArray) (w : World) (hp : 0 < s.size) (hs : s.size ≤ 4000) (hc : s[0] = 39) :
    Calls Try.prog 69 #[.string s] w (FirstPost s w) := by
  have hr := runL_le quotedI (s.data.toList.drop 1)
  rw [List.length_drop, data_length] at hr
  have hz : (s.data.toList.drop 1).length = s.size - 1 := by rw [List.length_drop, data_length]
  have hx : (s.extract 1 s.size).data.toList = s.data.toList.drop 1 := extract1 s
  generalize hn : runL quotedI (s.data.toList.drop 1) = n at *
  have hf : firstL s.data.toList = if n = 0 ∨ n = s.size - 1 ∨ (s.data.toList.drop 1)[n]? ≠ some 39 then (0, [], 0) else (2, (s.data.toList.drop 1).take n, n + 2) := by
    conv => lhs; rw [hd0 s hp, hc]
    simp only [firstL]
    rw [if_neg (by decide), if_neg (by decide), if_neg (by decide), if_pos trivial, hn, hz]
  have hg : ∀ h : n + 1 < s.size, (s.data.toList.drop 1)[n]? = some s[n + 1] := by
    intro h
    rw [List.getElem?_drop, Nat.add_comm 1 n, List.getElem?_eq_getElem (by rw [data_length]; exact h)]
    rfl
  have HX := Lib.hid hx
  have HN := Lib.hid hn
  clear hx hn
  have t1 := u8test hc 35 rfl
  have t2 := u8test hc 13 rfl
  have t3 := u8test hc 32 rfl
  have t4 := u8test hc 9 rfl
  have t5 := u8test hc 10 rfl
  have t6 := u8test hc 39 rfl
  have tl : letterI s[0].toNat = false := by rw [hc]; rfl
  clear hc hz
  by_cases h0 : n = 0
  · rw [if_pos (.inl h0)] at hf
    subst h0
    have HF := Lib.hid hf
    clear hf hg
    go_enter Try.func69, Try.ntmps69
    go_wp2_with (first | (go_at_call 118; refine (letter_any _ _).mono ?_; rintro e w' ⟨rfl, rfl⟩) | (go_at_call 119; refine (run_any 121 quotedI _ _ (by simp; omega) cf121 quoted_any).mono ?_; rintro e w' ⟨rfl, rfl⟩; rw [HX.out, HN.out]))
    go_ret3
    exact FirstPost.mk HF.out rfl rfl (Below.refl _ _)
  · by_cases h1 : n + 1 = s.size
    · rw [if_pos (.inr (.inl (by omega)))] at hf
      have HF := Lib.hid hf
      clear hf hg
      have b0 : ((n : Int) == 0) = false := beq_eq_false_iff_ne.2 (by omega)
      have b1 : ((n : Int) + 1 == (s.size : Int)) = true := beq_iff_eq.2 (by omega)
      have H1 := Lib.hid h1
      clear h1
      go_enter Try.func69, Try.ntmps69
      go_wp2_with (first | (go_at_call 118; refine (letter_any _ _).mono ?_; rintro e w' ⟨rfl, rfl⟩) | (go_at_call 119; refine (run_any 121 quotedI _ _ (by simp; omega) cf121 quoted_any).mono ?_; rintro e w' ⟨rfl, rfl⟩; rw [HX.out, HN.out]))
      go_ret3
      exact FirstPost.mk HF.out rfl rfl (Below.refl _ _)
    · have hlt : n + 1 < s.size := by omega
      rw [hg hlt] at hf
      have b0 : ((n : Int) == 0) = false := beq_eq_false_iff_ne.2 (by omega)
      have b1 : ((n : Int) + 1 == (s.size : Int)) = false := beq_eq_false_iff_ne.2 (by omega)
      by_cases h2 : s[n + 1] = 39
      · rw [if_neg (by rw [h2]; simp; omega)] at hf
        have HF := Lib.hid hf
        have t7 : ((s[n + 1].toNat : Int) != 39) = false := by rw [h2]; rfl
        clear hf hg h2
        go_enter Try.func69, Try.ntmps69
        go_wp2_with (first | (go_at_call 118; refine (letter_any _ _).mono ?_; rintro e w' ⟨rfl, rfl⟩) | (go_at_call 119; refine (run_any 121 quotedI _ _ (by simp; omega) cf121 quoted_any).mono ?_; rintro e w' ⟨rfl, rfl⟩; rw [HX.out, HN.out]))
        go_quiet (fail)
        go_wp2_with fail
        go_ret3
        exact FirstPost.mk HF.out (extract_dt s 1 n) (by omega) (pw_below_drewN (Below.refl _ _) _)
      · rw [if_pos (.inr (.inr (by simpa using h2)))] at hf
        have HF := Lib.hid hf
        have t7 : ((s[n + 1].toNat : Int) != 39) = true := by have := u8not h2 39 rfl; simp [bne, this]
        clear hf hg h2
        go_enter Try.func69, Try.ntmps69
        go_wp2_with (first | (go_at_call 118; refine (letter_any _ _).mono ?_; rintro e w' ⟨rfl, rfl⟩) | (go_at_call 119; refine (run_any 121 quotedI _ _ (by simp; omega) cf121 quoted_any).mono ?_; rintro e w' ⟨rfl, rfl⟩; rw [HX.out, HN.out]))
        go_ret3
        exact FirstPost.mk HF.out rfl rfl (Below.refl _ _)
theorem marks_index (c : UInt8) : (0 ≤ Lib.indexByte marksL c ↔ c ∈ marksL) := by
  simp only [marksL, Lib.indexByte]
  constructor
  · intro h
    by_cases h1 : 58 = c
    · simp [h1]
    by_cases h2 : 59 = c
    · simp [h2]
    by_cases h3 : 124 = c
    · simp [h3]
    by_cases h4 : 40 = c
    · simp [h4]
    by_cases h5 : 41 = c
    · simp [h5]
    by_cases h6 : 42 = c
    · simp [h6]
    by_cases h7 : 43 = c
    · simp [h7]
    by_cases h8 : 63 = c
    · simp [h8]
    simp [h1, h2, h3, h4, h5, h6, h7, h8] at h
  · intro h
    simp only [List.mem_cons, List.not_mem_nil, or_false] at h
    rcases h with h | h | h | h | h | h | h | h <;> subst h <;> decide
set_option maxHeartbeats 1000000 in
theorem first_rest (s : ByteArray) (w : World) (hp : 0 < s.size) (hs : s.size ≤ 4000) (h1 : s[0] ≠ 35) (h2 : s[0] ≠ 13) (h3 : s[0] ≠ 32) (h4 : s[0] ≠ 9) (h5 : s[0] ≠ 10) (h6 : letterI s[0].toNat = false) (h7 : s[0] ≠ 39) :
    Calls Try.prog 69 #[.string s] w (FirstPost s w) := by
  have hf : firstL s.data.toList = if s[0] ∈ marksL then ((3, [s[0]], 1) : Int × List UInt8 × Nat) else (0, [], 0) := by
    rw [hd0 s hp]
    simp [firstL, h1, h2, h3, h4, h5, h6, h7]
  have hm := marks_index s[0]
  have hc : (s[0].toNat : Int).toNat.toUInt8 = s[0] := by simp
  have hx : [s[0]] = (s.extract 0 1).data.toList := by
    rw [extract_list, List.drop_zero]
    conv => rhs; rw [hd0 s hp]
    rfl
  have t1 := u8not h1 35 rfl
  have t2 := u8not h2 13 rfl
  have t3 := u8not h3 32 rfl
  have t4 := u8not h4 9 rfl
  have t5 := u8not h5 10 rfl
  have t6 := u8not h7 39 rfl
  have HX := Lib.hid hx
  obtain ⟨q, hq⟩ : ∃ q, Lib.indexByte (⟨#[58, 59, 124, 40, 41, 42, 43, 63]⟩ : ByteArray).data.toList (s[0].toNat : Int).toNat.toUInt8 = q := ⟨_, rfl⟩
  have hq2 : Lib.indexByte marksL s[0] = q := by rw [← hq, hc]; rfl
  rw [hq2] at hm
  have HQ := Lib.hid hq
  clear h1 h2 h3 h4 h5 h7 hc hx hq hq2
  by_cases hmem : s[0] ∈ marksL
  · rw [if_pos hmem] at hf
    have HF := Lib.hid hf
    have hge : 0 ≤ q := hm.2 hmem
    clear hf hm hmem
    go_enter Try.func69, Try.ntmps69
    go_wp2_with (go_at_call 118; refine (letter_any _ _).mono ?_; rintro e w' ⟨rfl, rfl⟩)
    refine (Try.strings_IndexByte _ _ _).mono ?_
    rintro e w' ⟨rfl, rfl⟩
    rw [HQ.out]
    go_wp2_with fail
    go_quiet (fail)
    go_wp2_with fail
    go_ret3
    exact FirstPost.mk HF.out HX.out.symm rfl (pw_below_drewN (Below.refl _ _) _)
  · rw [if_neg hmem] at hf
    have HF := Lib.hid hf
    have hge : q < 0 := by have := mt hm.1 hmem; omega
    clear hf hm hmem
    go_enter Try.func69, Try.ntmps69
    go_wp2_with (go_at_call 118; refine (letter_any _ _).mono ?_; rintro e w' ⟨rfl, rfl⟩)
    refine (Try.strings_IndexByte _ _ _).mono ?_
    rintro e w' ⟨rfl, rfl⟩
    rw [HQ.out]
    go_wp2_with fail
    go_ret3
    exact FirstPost.mk HF.out rfl rfl (Below.refl _ _)
theorem first_any (s : ByteArray) (w : World) (hp : 0 < s.size) (hs : s.size ≤ 4000) : Calls Try.prog 69 #[.string s] w (FirstPost s w) := by
  by_cases h1 : s[0] = 35
  · exact first_line s w hp hs h1
  by_cases h2 : s[0] = 13
  · exact first_blank s w hp (.inl h2)
  by_cases h3 : s[0] = 32
  · exact first_blank s w hp (.inr (.inl h3))
  by_cases h4 : s[0] = 9
  · exact first_blank s w hp (.inr (.inr (.inl h4)))
  by_cases h5 : s[0] = 10
  · exact first_blank s w hp (.inr (.inr (.inr h5)))
  cases h6 : letterI s[0].toNat with
  | true => exact first_name s w hp hs h1 h2 h3 h4 h5 h6
  | false =>
    by_cases h7 : s[0] = 39
    · exact first_quote s w hp hs h7
    · exact first_rest s w hp hs h1 h2 h3 h4 h5 h6 h7
end Go.Proofs.Ytoiejgmfgcdniaa
