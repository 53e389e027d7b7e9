import Derived.Test.YtoiejgmfgcdniaaScan3
set_option linter.unusedVariables false
namespace Go.Proofs.Ytoiejgmfgcdniaa
open Go.RowKit Go.Proofs.YtoiejgmfgcdniaaW.PrintWords

theorem info65 : (Try.prog.info? 65).map (fun i => (i.zero, i.size, i.bytes)) = some (some (.agg #[.int .i64 0, .string ⟨#[]⟩, .int .i64 0]), 3, 32) := by kernel_rfl
/-- The tokens from a place on. -/
def scanGo : Nat → Nat → List UInt8 → List Tok → List Tok × Int × Int
  | 0, _, _, acc => (acc, 0, 0)
  | f + 1, pos, l, acc =>
    if l = [] then (acc, 0, 0)
    else if (firstL l).2.2 = 0 then ([], pos, 2)
    else scanGo f (pos + (firstL l).2.2) (l.drop (firstL l).2.2) (if 0 < (firstL l).1 then acc ++ [⟨(firstL l).1, bs (firstL l).2.1, pos⟩] else acc)
def scanL (l : List UInt8) : List Tok × Int × Int := if l.length > 4000 then ([], 0, 5) else scanGo (l.length + 1) 0 l []
theorem firstL_le (l : List UInt8) : (firstL l).2.2 ≤ l.length := by
  cases l with
  | nil => simp [firstL]
  | cons c r =>
    simp only [firstL]
    have h1 := lineLen_le (c :: r)
    have h2 := runL_le partI (c :: r)
    have h3 := runL_le quotedI r
    repeat' split
    all_goals simp at *
    all_goals first | omega | skip
def ScanPost (R : List Tok × Int × Int) (w : World) (e : Ending) (w' : World) : Prop :=
  ∃ A c, e = .returned (.tuple #[.slice A R.1.length c, .int .i64 R.2.1, .int .i64 R.2.2]) ∧ R.1.length ≤ c ∧ Kd.C kTok w' A R.1.length R.1 ∧ Below w.heap.size w w'
theorem extract_drop (s : ByteArray) (a : Nat) : (s.extract a s.size).data.toList = s.data.toList.drop a := by
  rw [extract_list, List.take_of_length_le (by rw [data_length]; exact Nat.le_refl _)]
set_option maxHeartbeats 1000000 in
theorem scan_any (s : ByteArray) (w : World) : Calls Try.prog 26 #[.string s] w (ScanPost (scanL s.data.toList) w) := by
  by_cases hb : 4000 < s.size
  · have hq : scanL s.data.toList = ([], 0, 5) := by unfold scanL; rw [if_pos (by rw [data_length]; exact hb)]
    rw [hq]
    clear hq
    go_enter Try.func26, Try.ntmps26
    go_wp2_with fail
    go_ret3
    exact ⟨none, 0, rfl, Nat.le_refl _, Kd.C_nil _ _, Below.refl _ _⟩
  · have hq : scanL s.data.toList = scanGo (s.size + 1) 0 s.data.toList [] := by unfold scanL; rw [if_neg (by rw [data_length]; exact hb), data_length]
    generalize scanL s.data.toList = R at hq
    have HQ := Lib.hid hq
    clear hq
    go_enter Try.func26, Try.ntmps26
    go_wp2_with fail
    go_loopw [5, 6] (fun v i wr => ∃ (k f : Nat) (acc : List Tok), k ≤ s.size ∧ i = .int .i64 k ∧ s.size - k < f ∧ acc.length ≤ k ∧ Hid (R = scanGo f k (s.data.toList.drop k) acc) ∧ Kd.R kTok 65 wr w.heap.size (fun _ => True) v acc ∧ Below w.heap.size w wr) (fun _ i _ => s.size - (intOf i).toNat)
    case atStart => exact ⟨0, s.size + 1, [], Nat.zero_le _, rfl, by omega, Nat.le_refl _, HQ, Kd.R_nil _ _ _ _ _, Below.refl _ _⟩
    case round =>
      clear HQ
      obtain ⟨k, f, acc, hk, rfl, hf, ha, HS, hO, hB⟩ := hrel
      have HO := Lib.hid hO
      clear hO
      by_cases hlt : k < s.size
      · obtain ⟨f, rfl⟩ : ∃ m, f = m + 1 := ⟨f - 1, by omega⟩
        have hne : s.data.toList.drop k ≠ [] := by intro h; have := congrArg List.length h; rw [List.length_drop, data_length] at this; simp at this; omega
        have hle := firstL_le (s.data.toList.drop k)
        have hsc := HS
        unfold RowKit.Hid at hsc
        rw [scanGo, if_neg hne] at hsc
        rw [List.length_drop, data_length] at hle
        clear HS hne
        obtain ⟨⟨K, T, N⟩, hq⟩ : ∃ q, firstL (s.data.toList.drop k) = q := ⟨_, rfl⟩
        rw [hq] at hsc hle
        simp only [List.drop_drop] at hsc hle
        have HQ := Lib.hid hq
        clear hq
        by_cases hN : N = 0
        · rw [if_pos hN] at hsc
          subst hN
          have HSC := Lib.hid hsc
          clear hsc
          go_wp2_with fail
          refine (first_any (s.extract k s.size) _ (by simp; omega) (by simp; omega)).mono ?_
          intro e w' hP
          unfold FirstPost at hP
          rw [extract_drop, HQ.out] at hP
          obtain ⟨rfl, hb⟩ := hP
          go_wp2_with fail
          go_ret3
          rw [HSC.out]
          exact ⟨none, 0, rfl, Nat.le_refl _, Kd.C_nil _ _, blw hB hb⟩
        · rw [if_neg hN] at hsc
          have b0 : ((N : Int) == 0) = false := beq_eq_false_iff_ne.2 (by omega)
          by_cases hK : 0 < K
          · rw [if_pos hK] at hsc
            have HSC := Lib.hid hsc
            clear hsc
            go_wp2_with fail
            refine (first_any (s.extract k s.size) _ (by simp; omega) (by simp; omega)).mono ?_
            intro e w' hP
            unfold FirstPost at hP
            rw [extract_drop, HQ.out] at hP
            obtain ⟨rfl, hb⟩ := hP
            have HO1 := Lib.hid (Kd.R_below HO.out hb)
            have hB1 := blw hB hb
            clear hb hB HO
            go_wp2_with (at_builtin; refine Kd.R_append kTok (w0 := w) w.heap.size rfl (.tmp 30) (.tmp 35) 61 65 _ 32 rfl Try.underlying61 info65 rfl (by decide) (by omega) _ acc ⟨K, bs T, k⟩ [.int .i64 K, .string (bs T), .int .i64 k] (fun _ => True) (fun _ => False) rfl rfl (kTok_mkM _ _ _ ⟨K, bs T, k⟩) (fun _ hk => hk.elim) (fun _ _ => trivial) HO1.out hB1 hB1.size (by omega) ?_; intro v1 w1 ho hb1 hg _)
            have HO2 := Lib.hid ho
            clear ho HO1
            go_wp2_with fail
            go_roundw
            case rel => exact ⟨k + N, f, acc ++ [⟨K, bs T, k⟩], by omega, by go_num, by omega, by simp; omega, HSC, HO2.out, hb1⟩
            case measure => simp [intOf]; omega
          · rw [if_neg hK] at hsc
            have HSC := Lib.hid hsc
            clear hsc
            go_wp2_with fail
            refine (first_any (s.extract k s.size) _ (by simp; omega) (by simp; omega)).mono ?_
            intro e w' hP
            unfold FirstPost at hP
            rw [extract_drop, HQ.out] at hP
            obtain ⟨rfl, hb⟩ := hP
            go_wp2_with fail
            go_roundw
            case rel => exact ⟨k + N, f, acc, by omega, by go_num, by omega, by omega, HSC, Kd.R_below HO.out hb, blw hB hb⟩
            case measure => simp [intOf]; omega
      · obtain ⟨f, rfl⟩ : ∃ m, f = m + 1 := ⟨f - 1, by omega⟩
        have hne : s.data.toList.drop k = [] := List.drop_eq_nil_of_le (by rw [data_length]; omega)
        have hsc := HS
        unfold RowKit.Hid at hsc
        rw [scanGo, if_pos hne] at hsc
        have HSC := Lib.hid hsc
        clear hsc HS hne
        obtain ⟨A, c, rfl, hlc, hC⟩ := Kd.R_reads HO.out
        have HC := Lib.hid hC
        clear hC
        go_wp2_with fail
        go_ret3
        rw [HSC.out]
        exact ⟨A, c, rfl, hlc, HC.out, hB⟩
end Go.Proofs.Ytoiejgmfgcdniaa
