import Derived.Test.YtoiejgmfgcdniaaLower2
set_option linter.unusedVariables false
set_option linter.unusedSimpArgs false
namespace Go.Proofs.Ytoiejgmfgcdniaa
open Go.RowKit Go.Proofs.YtoiejgmfgcdniaaW.PrintWords
open Go.Maps (Keyed)

/-! ### all -/
def AllPost (xs : List Sym) (w : World) (e : Ending) (w' : World) : Prop := ∃ v, e = .returned v ∧ kSym.R 41 w' w.heap.size (fun _ => True) v xs ∧ Below w.heap.size w w'
set_option maxRecDepth 100000 in
set_option maxHeartbeats 1000000 in
theorem all_any (F : Nat) (fst : Value) (σ : Int → Sym) (A : Option Addr) (n c : Nat) (xs : List Int) (w : World) (hr : Kd.C (Kd.int .i64) w A n xs) (hn : xs.length ≤ 1000000)
    (hcf : ∀ args W, (callFunc F args).run Try.prog W = .ok (.enter F args) W)
    (hF : ∀ x W, x ∈ xs → Below w.heap.size w W → Calls Try.prog F #[fst, .int .i64 x] W (SymPost (σ x) W)) :
    Calls Try.prog 100 #[.slice A n c, .func (.func F) #[fst] #[]] w (AllPost (xs.map σ) w) := by
  obtain rfl : n = xs.length := (Kd.C_len hr).symm
  have HF := Lib.hid hF
  have HR := Lib.hid hr
  clear hF hr
  go_enter Try.func100, Try.ntmps100
  go_wp2_with fail
  go_loopw [5, 10] (fun v i wr => ∃ k : Nat, k ≤ xs.length ∧ i = .int .i64 k ∧ Hid (kSym.R 41 wr w.heap.size (fun _ => True) v ((xs.take k).map σ)) ∧ Hid (Below w.heap.size w wr)) (fun _ i _ => xs.length - (intOf i).toNat)
  case atStart => exact ⟨0, Nat.zero_le _, rfl, Kd.R_nil _ _ _ _ _, Below.refl _ _⟩
  case round =>
    obtain ⟨k, hk, rfl, HO, HB⟩ := hrel
    by_cases hlt : k < xs.length
    · obtain ⟨ad, x, rfl, hx, d0⟩ := at_int (Kd.C_below HR.out HB.out) k hlt
      have HX := Lib.hid hx
      have HT := Lib.hid (take_of hx)
      clear hx
      go_wp2_with fail
      refine (HF.out x _ (List.mem_of_getElem? HX.out) HB.out).mono ?_
      rintro e w' ⟨rfl, hb⟩
      have HO1 := Lib.hid (Kd.R_below HO.out hb)
      have hB1 := blw HB.out hb
      clear d0 hb HO HB
      go_wp2_with (at_builtin; refine Kd.R_append kSym (w0 := w) w.heap.size rfl (.tmp 14) (.tmp 18) 37 41 _ 16 rfl Try.underlying37 info41 rfl (by decide) (by omega) _ ((xs.take k).map σ) (σ x) [.bool (σ x).non, .int .i64 (σ x).n] (fun _ => True) (fun _ => False) rfl rfl (kSym_mkM _ _ _ (σ x)) (fun _ hk => hk.elim) (fun _ _ => trivial) HO1.out hB1 hB1.size (by rw [List.length_map, List.length_take]; omega) ?_; intro v1 w1 ho hb1 hg _; have HO2 := Lib.hid ho; have HB2 := Lib.hid hb1; clear ho hb1 hg HO1 hB1)
      go_roundw
      case rel => exact ⟨k + 1, by omega, by go_num, by rw [HT.out, List.map_append]; exact HO2, HB2⟩
      case measure => simp [intOf]; omega
    · have HE : Hid (xs.take k = xs) := Lib.hid (List.take_of_length_le (by omega))
      go_wp2_with fail
      go_ret
      exact ⟨_, rfl, by have := HO.out; rwa [HE.out] at this, HB.out⟩

/-! ### a store into a map, at the operation -/
theorem wpList_put {K T : TypeId} {κ : Type} [DecidableEq κ] {kl : κ → Lit} {b n : Nat} {f : κ → Option Int} {sz : Nat} (w : World) {ops : Array Oper} {rest : List Oper} {o : Oper} {a : Act} {Q : Exit → Act → World → Prop}
    (hg : o.guard = none) (m x v : Operand) (hop : o.op = Op.mapUpdate T m x v) (law : Keyed Try.prog K) (hT : Try.prog.underlying T = some (.map K 3)) (inj : ∀ {x y}, kl x = kl y → x = y)
    (hm : a.eval m = .map (some b)) (h : MapRep K kl w b n f sz) (hn : n < maxLen) {key : κ} {kv : Value} (hx : a.eval x = kv) (hk : keyOf Try.prog K kv = some (kl key)) {c : Int} (hv : a.eval v = .int .i64 c) (hc : (Lit.int .i64 c).wf = true)
    (hK : ∀ w', MapRep K kl w' b (n + 1) (upd f key c) (if (f key).isSome then sz else sz + 1) → w.grownBy w' (some b) → w'.heap.size = w.heap.size → wpList Try.prog ops Q rest (a.put o.dst undef) w') :
    wpList Try.prog ops Q (o :: rest) a w := by
  refine wpList_plain hg fun K' hK' => ?_
  obtain ⟨w', hrun, r1, r2, r3⟩ := h.put law hT hn inj hk hc
  unfold Oper.wp
  simp [execOp, hop, hm, hx, hv, hrun, Result.andThen]
  exact hK' _ _ (hK w' r1 r2 r3)
end Go.Proofs.Ytoiejgmfgcdniaa
