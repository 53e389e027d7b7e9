import Derived.Test.YtoiejgmfgcdniaaScan1
import Derived.Test.YtoiejgmfgcdniaaShelf
set_option linter.unusedVariables false
namespace Go.Proofs.Ytoiejgmfgcdniaa
open Go.RowKit Go.Proofs.YtoiejgmfgcdniaaW.PrintWords

def lineLen (l : List UInt8) : Nat := (l.takeWhile (· != 10)).length
theorem lineLen_le (l : List UInt8) : lineLen l ≤ l.length := (List.takeWhile_sublist _).length_le
theorem lineLen_index (l : List UInt8) : Lib.indexByte l 10 = if lineLen l = l.length then -1 else (lineLen l : Int) := by
  induction l with
  | nil => simp [Lib.indexByte, lineLen]
  | cons b l ih =>
    have hle := lineLen_le l
    unfold Lib.indexByte
    by_cases hb : b = 10
    · subst hb; simp [lineLen]
    · have h1 : lineLen (b :: l) = lineLen l + 1 := by simp [lineLen, hb]
      rw [h1, ih]
      simp only [List.length_cons, beq_iff_eq, hb, if_false]
      by_cases h2 : lineLen l = l.length
      · simp [h2]
      · simp [h2]
set_option maxHeartbeats 400000 in
theorem cut_any (s : ByteArray) (w : World) (hs : s.size ≤ 4000) : Calls Try.prog 158 #[.string s, .string ⟨#[10]⟩] w fun e w' => ∃ b r f, e = .returned (.tuple #[.string b, .string r, .bool f]) ∧ b.size = lineLen s.data.toList ∧ Below w.heap.size w w' := by
  have hi := lineLen_index s.data.toList
  have hle := lineLen_le s.data.toList
  rw [data_length] at hi hle
  by_cases h : lineLen s.data.toList = s.size
  · rw [if_pos h] at hi
    have HI := Lib.hid hi
    have HL := Lib.hid h
    clear hi h
    go_enter Try.func158, Try.ntmps158
    go_wp2_with fail
    refine (Try.stringslite_Index_one s 10 w).mono ?_
    rintro e w' ⟨rfl, rfl⟩
    rw [HI.out]
    go_wp2_with fail
    go_ret3
    exact ⟨s, _, _, rfl, HL.out.symm, Below.refl _ _⟩
  · rw [if_neg h] at hi
    have hlt : lineLen s.data.toList < s.size := by omega
    generalize lineLen s.data.toList = n at *
    have HI := Lib.hid hi
    clear hi h
    go_enter Try.func158, Try.ntmps158
    go_wp2_with fail
    refine (Try.stringslite_Index_one s 10 w).mono ?_
    rintro e w' ⟨rfl, rfl⟩
    rw [HI.out]
    go_wp2_with fail
    go_quiet (fail)
    go_wp2_with fail
    go_ret3
    exact ⟨s.extract 0 n, s.extract (n + 1) s.size, true, rfl, by simp; omega, pw_below_drewN (Below.refl _ _) _⟩
set_option maxHeartbeats 400000 in
theorem strCut_any (s : ByteArray) (w : World) (hs : s.size ≤ 4000) : Calls Try.prog 117 #[.string s, .string ⟨#[10]⟩] w fun e w' => ∃ b r f, e = .returned (.tuple #[.string b, .string r, .bool f]) ∧ b.size = lineLen s.data.toList ∧ Below w.heap.size w w' := by
  generalize hn : lineLen s.data.toList = n
  have HN := Lib.hid hn
  clear hn
  go_enter Try.func117, Try.ntmps117
  go_wp2_with fail
  refine (cut_any s w hs).mono ?_
  rintro e w' ⟨b, r, f, rfl, hl, hb⟩
  have HL := Lib.hid hl
  clear hl
  go_wp2_with fail
  go_ret3
  exact ⟨b, r, f, rfl, HL.out.trans HN.out, hb⟩
end Go.Proofs.Ytoiejgmfgcdniaa
