import Derived.Test.YtoiejgmfgcdniaaXBase
set_option linter.unusedVariables false
namespace Go.Proofs.Ytoiejgmfgcdniaa
open Go.RowKit Go.Proofs.YtoiejgmfgcdniaaW.PrintWords

set_option maxRecDepth 100000 in
set_option maxHeartbeats 400000 in
theorem idx_Sym (F : Nat) (cap : Value) (p : Sym → Bool) (A : Option Addr) (n c : Nat) (xs : List Sym) (w : World)
    (hr : Kd.C kSym w A n xs)
    (hcf : ∀ args W, (callFunc F args).run Try.prog W = .ok (.enter F args) W)
    (hF : ∀ (x : Sym) W, x ∈ xs → Below w.heap.size w W → Calls Try.prog F #[.agg #[.bool x.non, .int .i64 x.n], cap] W fun e w' => e = .returned (.bool (p x)) ∧ Below W.heap.size W w') :
    Calls Try.prog 153 #[.slice A n c, .func (.func F) #[] #[cap]] w fun e w' => e = .returned (.int .i64 (idxOf p xs)) ∧ Below w.heap.size w w' := by
  obtain rfl : n = xs.length := (Kd.C_len hr).symm
  have hm := Kd.C_max hr
  have HF := Lib.hid hF
  clear hF
  go_enter Try.func153, Try.ntmps153
  go_wp2_with fail
  go_loopw [8] (fun i wr => ∃ k : Nat, k ≤ xs.length ∧ i = .int .i64 k ∧ idxOf p xs = idxFrom p k (xs.drop k) ∧ Below w.heap.size w wr) (fun i _ => xs.length - (intOf i).toNat)
  case atStart => exact ⟨0, Nat.zero_le _, rfl, rfl, Below.refl _ _⟩
  case round =>
    obtain ⟨k, hk, rfl, hs, hB⟩ := hrel
    by_cases hlt : k < xs.length
    · obtain ⟨ad, x, rfl, hx, d0, d1⟩ := at_Sym (Kd.C_below hr hB) k hlt
      have HX := Lib.hid hx
      have HS := Lib.hid hs
      clear hx hs
      go_wp2_with fail
      refine (HF.out x _ (List.mem_of_getElem? HX.out) hB).mono ?_
      rintro e w' ⟨rfl, hb⟩
      clear d0 d1
      go_wp2_with fail
      · have hp : p x = true := by assumption
        go_ret
        exact ⟨ret_int (by rw [HS.out, idxFrom_hit HX.out hp]), blw hB hb⟩
      · have hp : p x = false := by assumption
        go_roundw
        case rel => exact ⟨k + 1, by omega, by go_num, by rw [HS.out, idxFrom_miss HX.out hp], blw hB hb⟩
        case measure => simp [intOf]; omega
    · go_wp2_with fail
      go_ret
      exact ⟨ret_int (by rw [hs, List.drop_eq_nil_of_le (by omega)]; rfl), hB⟩
set_option maxHeartbeats 400000 in
theorem cont_Sym (F : Nat) (cap : Value) (p : Sym → Bool) (A : Option Addr) (n c : Nat) (xs : List Sym) (w : World)
    (hr : Kd.C kSym w A n xs)
    (hcf : ∀ args W, (callFunc F args).run Try.prog W = .ok (.enter F args) W)
    (hF : ∀ (x : Sym) W, x ∈ xs → Below w.heap.size w W → Calls Try.prog F #[.agg #[.bool x.non, .int .i64 x.n], cap] W fun e w' => e = .returned (.bool (p x)) ∧ Below W.heap.size W w') :
    Calls Try.prog 106 #[.slice A n c, .func (.func F) #[] #[cap]] w fun e w' => e = .returned (.bool (xs.any p)) ∧ Below w.heap.size w w' := by
  have HC := Lib.hid (idx_Sym F cap p A n c xs w hr hcf hF)
  clear hcf hF
  go_enter Try.func106, Try.ntmps106
  go_wp2_with fail
  refine HC.out.mono ?_
  rintro e w' ⟨rfl, hb⟩
  go_wp2_with fail
  go_ret
  exact ⟨ret_bool (idxOf_any p xs), hb⟩

set_option maxRecDepth 100000 in
set_option maxHeartbeats 400000 in
theorem idx_Prod (F : Nat) (cap : Value) (p : Prod → Bool) (A : Option Addr) (n c : Nat) (xs : List Prod) (w : World)
    (hr : Kd.C kProd w A n xs)
    (hcf : ∀ args W, (callFunc F args).run Try.prog W = .ok (.enter F args) W)
    (hF : ∀ (x : Prod) (A1 : Option Addr) (c1 : Nat) W, x ∈ xs → Below w.heap.size w W → x.right.length ≤ c1 → kSym.C W A1 x.right.length x.right → Calls Try.prog F #[.agg #[.int .i64 x.left, .slice A1 x.right.length c1], cap] W fun e w' => e = .returned (.bool (p x)) ∧ Below W.heap.size W w') :
    Calls Try.prog 104 #[.slice A n c, .func (.func F) #[] #[cap]] w fun e w' => e = .returned (.int .i64 (idxOf p xs)) ∧ Below w.heap.size w w' := by
  obtain rfl : n = xs.length := (Kd.C_len hr).symm
  have hm := Kd.C_max hr
  have HF := Lib.hid hF
  clear hF
  go_enter Try.func104, Try.ntmps104
  go_wp2_with fail
  go_loopw [8] (fun i wr => ∃ k : Nat, k ≤ xs.length ∧ i = .int .i64 k ∧ idxOf p xs = idxFrom p k (xs.drop k) ∧ Below w.heap.size w wr) (fun i _ => xs.length - (intOf i).toNat)
  case atStart => exact ⟨0, Nat.zero_le _, rfl, rfl, Below.refl _ _⟩
  case round =>
    obtain ⟨k, hk, rfl, hs, hB⟩ := hrel
    by_cases hlt : k < xs.length
    · obtain ⟨ad, x, A1, c1, rfl, hx, d0, d1, l1, g1⟩ := at_Prod (Kd.C_below hr hB) k hlt
      have HX := Lib.hid hx
      have HS := Lib.hid hs
      clear hx hs
      go_wp2_with fail
      refine (HF.out x A1 c1 _ (List.mem_of_getElem? HX.out) hB l1 g1).mono ?_
      rintro e w' ⟨rfl, hb⟩
      clear d0 d1
      go_wp2_with fail
      · have hp : p x = true := by assumption
        go_ret
        exact ⟨ret_int (by rw [HS.out, idxFrom_hit HX.out hp]), blw hB hb⟩
      · have hp : p x = false := by assumption
        go_roundw
        case rel => exact ⟨k + 1, by omega, by go_num, by rw [HS.out, idxFrom_miss HX.out hp], blw hB hb⟩
        case measure => simp [intOf]; omega
    · go_wp2_with fail
      go_ret
      exact ⟨ret_int (by rw [hs, List.drop_eq_nil_of_le (by omega)]; rfl), hB⟩
set_option maxHeartbeats 400000 in
theorem cont_Prod (F : Nat) (cap : Value) (p : Prod → Bool) (A : Option Addr) (n c : Nat) (xs : List Prod) (w : World)
    (hr : Kd.C kProd w A n xs)
    (hcf : ∀ args W, (callFunc F args).run Try.prog W = .ok (.enter F args) W)
    (hF : ∀ (x : Prod) (A1 : Option Addr) (c1 : Nat) W, x ∈ xs → Below w.heap.size w W → x.right.length ≤ c1 → kSym.C W A1 x.right.length x.right → Calls Try.prog F #[.agg #[.int .i64 x.left, .slice A1 x.right.length c1], cap] W fun e w' => e = .returned (.bool (p x)) ∧ Below W.heap.size W w') :
    Calls Try.prog 54 #[.slice A n c, .func (.func F) #[] #[cap]] w fun e w' => e = .returned (.bool (xs.any p)) ∧ Below w.heap.size w w' := by
  have HC := Lib.hid (idx_Prod F cap p A n c xs w hr hcf hF)
  clear hcf hF
  go_enter Try.func54, Try.ntmps54
  go_wp2_with fail
  refine HC.out.mono ?_
  rintro e w' ⟨rfl, hb⟩
  go_wp2_with fail
  go_ret
  exact ⟨ret_bool (idxOf_any p xs), hb⟩

set_option maxRecDepth 100000 in
set_option maxHeartbeats 400000 in
theorem idx_Rule (F : Nat) (cap : Value) (p : Rule → Bool) (A : Option Addr) (n c : Nat) (xs : List Rule) (w : World)
    (hr : Kd.C kRule w A n xs)
    (hcf : ∀ args W, (callFunc F args).run Try.prog W = .ok (.enter F args) W)
    (hF : ∀ (x : Rule) W, x ∈ xs → Below w.heap.size w W → Calls Try.prog F #[.agg #[.string x.name, .int .i64 x.body], cap] W fun e w' => e = .returned (.bool (p x)) ∧ Below W.heap.size W w') :
    Calls Try.prog 101 #[.slice A n c, .func (.func F) #[] #[cap]] w fun e w' => e = .returned (.int .i64 (idxOf p xs)) ∧ Below w.heap.size w w' := by
  obtain rfl : n = xs.length := (Kd.C_len hr).symm
  have hm := Kd.C_max hr
  have HF := Lib.hid hF
  clear hF
  go_enter Try.func101, Try.ntmps101
  go_wp2_with fail
  go_loopw [8] (fun i wr => ∃ k : Nat, k ≤ xs.length ∧ i = .int .i64 k ∧ idxOf p xs = idxFrom p k (xs.drop k) ∧ Below w.heap.size w wr) (fun i _ => xs.length - (intOf i).toNat)
  case atStart => exact ⟨0, Nat.zero_le _, rfl, rfl, Below.refl _ _⟩
  case round =>
    obtain ⟨k, hk, rfl, hs, hB⟩ := hrel
    by_cases hlt : k < xs.length
    · obtain ⟨ad, x, rfl, hx, d0, d1⟩ := at_Rule (Kd.C_below hr hB) k hlt
      have HX := Lib.hid hx
      have HS := Lib.hid hs
      clear hx hs
      go_wp2_with fail
      refine (HF.out x _ (List.mem_of_getElem? HX.out) hB).mono ?_
      rintro e w' ⟨rfl, hb⟩
      clear d0 d1
      go_wp2_with fail
      · have hp : p x = true := by assumption
        go_ret
        exact ⟨ret_int (by rw [HS.out, idxFrom_hit HX.out hp]), blw hB hb⟩
      · have hp : p x = false := by assumption
        go_roundw
        case rel => exact ⟨k + 1, by omega, by go_num, by rw [HS.out, idxFrom_miss HX.out hp], blw hB hb⟩
        case measure => simp [intOf]; omega
    · go_wp2_with fail
      go_ret
      exact ⟨ret_int (by rw [hs, List.drop_eq_nil_of_le (by omega)]; rfl), hB⟩
set_option maxHeartbeats 400000 in
theorem cont_Rule (F : Nat) (cap : Value) (p : Rule → Bool) (A : Option Addr) (n c : Nat) (xs : List Rule) (w : World)
    (hr : Kd.C kRule w A n xs)
    (hcf : ∀ args W, (callFunc F args).run Try.prog W = .ok (.enter F args) W)
    (hF : ∀ (x : Rule) W, x ∈ xs → Below w.heap.size w W → Calls Try.prog F #[.agg #[.string x.name, .int .i64 x.body], cap] W fun e w' => e = .returned (.bool (p x)) ∧ Below W.heap.size W w') :
    Calls Try.prog 50 #[.slice A n c, .func (.func F) #[] #[cap]] w fun e w' => e = .returned (.bool (xs.any p)) ∧ Below w.heap.size w w' := by
  have HC := Lib.hid (idx_Rule F cap p A n c xs w hr hcf hF)
  clear hcf hF
  go_enter Try.func50, Try.ntmps50
  go_wp2_with fail
  refine HC.out.mono ?_
  rintro e w' ⟨rfl, hb⟩
  go_wp2_with fail
  go_ret
  exact ⟨ret_bool (idxOf_any p xs), hb⟩
end Go.Proofs.Ytoiejgmfgcdniaa
