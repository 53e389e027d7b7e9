import Derived.Test.YtoiejgmfgcdniaaRules2
set_option linter.unusedVariables false
set_option linter.unusedSimpArgs false
namespace Go.Proofs.Ytoiejgmfgcdniaa
open Go.RowKit Go.Proofs.YtoiejgmfgcdniaaW.PrintWords

/-- May a node be, but for its kids' places? -/
def fineB (rs : List Rule) (n : Node) : Bool :=
  if n.kind = 1 then decide (n.name = ⟨#[]⟩) && (n.kids.length != 1)
  else if n.kind = 2 then decide (n.name = ⟨#[]⟩) && decide (1 < n.kids.length)
  else if n.kind = 3 ∨ n.kind = 4 ∨ n.kind = 5 then decide (n.name = ⟨#[]⟩) && (n.kids.length == 1)
  else if n.kind = 6 then (n.kids.length == 0) && rs.any (fun r => decide (r.name = n.name))
  else if n.kind = 7 then (n.kids.length == 0) && (!(n.name.data.toList.contains 39) && tokenB (bs (39 :: n.name.data.toList ++ [39])) 2)
  else false
theorem cf102 : ∀ args W, (callFunc 102 args).run Try.prog W = .ok (.enter 102 args) W := by
  intro args W; simp [callFunc, go_sem, Try.func102]; rfl
set_option maxHeartbeats 400000 in
theorem fine1_any (kd : Int) (nm : ByteArray) (v : Value) (g : Nat) (rn : ByteArray) (rb : Int) (w : World)
    (hg : w.heap[g]? = some (.cells #[.int .i64 kd, .string nm, v] 57 (0, 0))) :
    Calls Try.prog 102 #[.agg #[.string rn, .int .i64 rb], .pointer (some ⟨g, 0, none⟩)] w fun e w' => e = .returned (.bool (decide (rn = nm))) ∧ Below w.heap.size w w' := by
  have hlt := blk_lt hg
  obtain ⟨d0, d1, d2⟩ := cells3 hg
  have HS := Lib.hid (str_eq rn nm)
  clear hg d0 d2
  go_enter Try.func102, Try.ntmps102
  go_wp2_with fail
  go_ret
  exact ⟨ret_bool HS.out, below_alloc (Below.refl _ _) _⟩
section
variable (rs : List Rule) (A0 : Option Addr) (c0 : Nat) (A1 : Option Addr) (m1 c1 : Nat) (n : Node) (A2 : Option Addr) (c2 : Nat) (w : World)
def FineSaid : Prop := Calls Try.prog 52 #[.agg #[.slice A0 rs.length c0, .slice A1 m1 c1], .agg #[.int .i64 n.kind, .string n.name, .slice A2 n.kids.length c2]] w fun e w' => e = .returned (.bool (fineB rs n)) ∧ Below w.heap.size w w'
theorem bel2n {w : World} (o1 o2 : Obj) : Below w.heap.size w ((w.alloc o1).alloc o2) := below_alloc (below_alloc (Below.refl _ _) _) _
theorem empty_iff (a : ByteArray) : decide (a = (⟨#[]⟩ : ByteArray)) = true ↔ a.toList = [] := by
  rw [decide_eq_true_eq, ByteArray.toList_eq]
  constructor
  · rintro rfl; rfl
  · intro h; exact ByteArray.ext (Array.toList_inj.1 h)
set_option maxHeartbeats 1000000 in
theorem fine_plain (h6 : n.kind ≠ 6) (h7 : n.kind ≠ 7) : FineSaid rs A0 c0 A1 m1 c1 n A2 c2 w := by
  unfold FineSaid
  have hem := empty_iff n.name
  have hq : fineB rs n = if n.kind = 1 then decide (n.name = ⟨#[]⟩) && (n.kids.length != 1)
      else if n.kind = 2 then decide (n.name = ⟨#[]⟩) && decide (1 < n.kids.length)
      else if n.kind = 3 ∨ n.kind = 4 ∨ n.kind = 5 then decide (n.name = ⟨#[]⟩) && (n.kids.length == 1) else false := by
    simp only [fineB, if_neg h6, if_neg h7]
  generalize fineB rs n = res at *
  obtain ⟨kd, nm, kids⟩ := n
  have e6 : (kd == 6) = false := beq_eq_false_iff_ne.2 h6
  have e7 : (kd == 7) = false := beq_eq_false_iff_ne.2 h7
  have HB := Lib.hid (fun o1 o2 => bel2n (w := w) o1 o2)
  clear h6 h7
  simp only at hq hem ⊢
  cases hz : decide (nm = (⟨#[]⟩ : ByteArray)) <;> rw [hz] at hem hq
  · simp only [Bool.false_and, ite_self] at hq
    have hne : ¬ nm.toList = [] := by simpa using hem
    clear hz hem
    subst hq
    go_enter Try.func52, Try.ntmps52
    go_wp2_with fail
    all_goals (go_ret; exact ⟨rfl, HB.out _ _⟩)
  · have hne : nm.toList = [] := by simpa using hem
    clear hz hem
    simp only [Bool.true_and] at hq
    cases e1 : (kd == 1)
    · rw [if_neg (by simpa using e1)] at hq
      cases e2 : (kd == 2)
      · rw [if_neg (by simpa using e2)] at hq
        cases e3 : (kd == 3)
        · cases e4 : (kd == 4)
          · cases e5 : (kd == 5)
            · rw [if_neg (by simp only [beq_eq_false_iff_ne] at e3 e4 e5; omega)] at hq
              subst hq
              go_enter Try.func52, Try.ntmps52
              go_wp2_with fail
              all_goals (go_ret; exact ⟨rfl, HB.out _ _⟩)
            · rw [if_pos (by simp only [beq_iff_eq] at e5; omega)] at hq
              have b1 : ((kids.length : Int) == 1) = res := by rw [hq, Bool.eq_iff_iff]; simp; omega
              clear hq
              go_enter Try.func52, Try.ntmps52
              go_wp2_with fail
              all_goals (go_ret; exact ⟨rfl, HB.out _ _⟩)
          · rw [if_pos (by simp only [beq_iff_eq] at e4; omega)] at hq
            have b1 : ((kids.length : Int) == 1) = res := by rw [hq, Bool.eq_iff_iff]; simp; omega
            clear hq
            go_enter Try.func52, Try.ntmps52
            go_wp2_with fail
            all_goals (go_ret; exact ⟨rfl, HB.out _ _⟩)
        · rw [if_pos (by simp only [beq_iff_eq] at e3; omega)] at hq
          have b1 : ((kids.length : Int) == 1) = res := by rw [hq, Bool.eq_iff_iff]; simp; omega
          clear hq
          go_enter Try.func52, Try.ntmps52
          go_wp2_with fail
          all_goals (go_ret; exact ⟨rfl, HB.out _ _⟩)
      · rw [if_pos (by simpa using e2)] at hq
        have b1 : decide (1 < (kids.length : Int)) = res := by rw [hq, Bool.eq_iff_iff]; simp; omega
        clear hq
        go_enter Try.func52, Try.ntmps52
        go_wp2_with fail
        all_goals (go_ret; exact ⟨rfl, HB.out _ _⟩)
    · rw [if_pos (by simpa using e1)] at hq
      have b1 : ((kids.length : Int) != 1) = res := by rw [hq, Bool.eq_iff_iff]; simp; omega
      clear hq
      go_enter Try.func52, Try.ntmps52
      go_wp2_with fail
      all_goals (go_ret; exact ⟨rfl, HB.out _ _⟩)
set_option maxHeartbeats 1000000 in
theorem fine_call (h6 : n.kind = 6) (hr : Kd.C kRule w A0 rs.length rs) : FineSaid rs A0 c0 A1 m1 c1 n A2 c2 w := by
  unfold FineSaid
  have hq : fineB rs n = ((n.kids.length == 0) && rs.any (fun r => decide (r.name = n.name))) := by
    simp only [fineB, h6]; rfl
  generalize fineB rs n = res at *
  obtain ⟨kd, nm, kids⟩ := n
  simp only at h6 hq ⊢
  subst h6
  have HB := Lib.hid (fun o1 o2 => bel2n (w := w) o1 o2)
  have HR := Lib.hid hr
  clear hr
  have hcf := cf102
  cases hz : (kids.length == 0) <;> rw [hz] at hq
  · have b0 : ((kids.length : Int) == 0) = false := by rw [beq_eq_false_iff_ne] at hz ⊢; omega
    clear hz
    simp only [Bool.false_and] at hq
    subst hq
    go_enter Try.func52, Try.ntmps52
    go_wp2_with fail
    go_ret
    exact ⟨rfl, HB.out _ _⟩
  · have b0 : ((kids.length : Int) == 0) = true := by rw [beq_iff_eq] at hz ⊢; omega
    clear hz
    simp only [Bool.true_and] at hq
    have HQ := Lib.hid hq
    clear hq
    go_enter Try.func52, Try.ntmps52
    go_wp2_with fail
    refine (cont_Rule 102 _ (fun r => decide (r.name = nm)) A0 _ c0 rs _ (Kd.C_alloc (Kd.C_alloc HR.out _) _) cf102 (fun x W _ hW => fine1_any 6 nm _ _ x.name x.body W (bel2 hW).2.1)).mono ?_
    rintro e w' ⟨rfl, hb⟩
    go_wp2_with fail
    go_ret
    exact ⟨ret_bool HQ.out.symm, (bel2 hb).2.2.1⟩
theorem contains39 (s : ByteArray) : (bytesOf s).any (fun x => (39 : Int) == x) = s.data.toList.contains 39 := by
  unfold bytesOf
  rw [Bool.eq_iff_iff]
  simp only [List.any_map, List.any_eq_true, Function.comp, beq_iff_eq, List.contains_iff_exists_mem_beq]
  constructor
  · rintro ⟨x, hx, h⟩
    exact ⟨x, hx, by apply UInt8.toNat_inj.1; show 39 = _; omega⟩
  · rintro ⟨x, hx, h⟩
    exact ⟨x, hx, by rw [← h]; rfl⟩
set_option maxHeartbeats 1000000 in
theorem fine_term (h7 : n.kind = 7) (hsz : n.name.size ≤ 140737488351232) : FineSaid rs A0 c0 A1 m1 c1 n A2 c2 w := by
  unfold FineSaid
  have hq : fineB rs n = ((n.kids.length == 0) && (!(n.name.data.toList.contains 39) && tokenB (bs (39 :: n.name.data.toList ++ [39])) 2)) := by
    simp only [fineB, h7]; rfl
  generalize fineB rs n = res at *
  obtain ⟨kd, nm, kids⟩ := n
  simp only at h7 hq hsz ⊢
  subst h7
  have HB := Lib.hid (fun o1 o2 => bel2n (w := w) o1 o2)
  cases hz : (kids.length == 0) <;> rw [hz] at hq
  · have b0 : ((kids.length : Int) == 0) = false := by rw [beq_eq_false_iff_ne] at hz ⊢; omega
    clear hz
    simp only [Bool.false_and] at hq
    subst hq
    go_enter Try.func52, Try.ntmps52
    go_wp2_with fail
    go_ret
    exact ⟨rfl, HB.out _ _⟩
  · have b0 : ((kids.length : Int) == 0) = true := by rw [beq_iff_eq] at hz ⊢; omega
    clear hz
    simp only [Bool.true_and] at hq
    have kb := fun W => print_bytes (P := Try.prog) 9 138 5 Try.underlying9 Try.underlying138 Try.underlying5 nm W
    have HQ := Lib.hid hq
    clear hq
    go_enter Try.func52, Try.ntmps52
    go_wp2_with fail
    have hrd := bytes_reads ((w.alloc (.cells #[.slice A0 rs.length c0, .slice A1 m1 c1] 25)).alloc (.cells #[.int .i64 7, .string nm, .slice A2 kids.length c2] 57)) 5 nm (by omega)
    have hb0 := bytes_below (Below.refl ((w.alloc (.cells #[.slice A0 rs.length c0, .slice A1 m1 c1] 25)).alloc (.cells #[.int .i64 7, .string nm, .slice A2 kids.length c2] 57)).heap.size ((w.alloc (.cells #[.slice A0 rs.length c0, .slice A1 m1 c1] 25)).alloc (.cells #[.int .i64 7, .string nm, .slice A2 kids.length c2] 57))) (Nat.le_refl _) 5 nm
    obtain ⟨hg1, hg2, hB2, hz2⟩ := bel2 hb0
    rw [size_alloc, size_alloc] at hrd
    generalize Lib.bytesWorld ((w.alloc (.cells #[.slice A0 rs.length c0, .slice A1 m1 c1] 25)).alloc (.cells #[.int .i64 7, .string nm, .slice A2 kids.length c2] 57)) 5 nm = w2 at *
    clear hb0 kb hg1
    refine (cont_byte 39 _ _ _ (bytesOf nm) _ hrd).mono ?_
    rintro e w' ⟨rfl, rfl⟩
    rw [contains39]
    obtain ⟨d0, d1, d2⟩ := cells3 hg2
    clear hrd hg2
    cases hc : nm.data.toList.contains 39 <;> rw [hc] at HQ
    · have hbs : (39 :: nm.data.toList ++ [39]) = ((⟨#[39]⟩ : ByteArray) ++ nm ++ (⟨#[39]⟩ : ByteArray)).data.toList := by simp
      rw [hbs, bs_of] at HQ
      have HQ2 := Lib.hid HQ
      clear HQ hbs
      go_wp2_with fail
      refine (token_any _ 2 _).mono ?_
      rintro e w3 ⟨rfl, hb3⟩
      have hfin : tokenB ((⟨#[39]⟩ : ByteArray) ++ nm ++ (⟨#[39]⟩ : ByteArray)) 2 = res := HQ2.symm
      rw [hfin]
      go_wp2_with fail
      go_ret
      exact ⟨rfl, blw hB2 hb3⟩
    · have hr : res = false := HQ
      clear HQ
      subst hr
      go_wp2_with fail
      go_ret
      exact ⟨rfl, hB2⟩
theorem fine_any (hr : Kd.C kRule w A0 rs.length rs) (hsz : n.name.size ≤ 140737488351232) : FineSaid rs A0 c0 A1 m1 c1 n A2 c2 w := by
  by_cases h6 : n.kind = 6
  · exact fine_call rs A0 c0 A1 m1 c1 n A2 c2 w h6 hr
  · by_cases h7 : n.kind = 7
    · exact fine_term rs A0 c0 A1 m1 c1 n A2 c2 w h7 hsz
    · exact fine_plain rs A0 c0 A1 m1 c1 n A2 c2 w h6 h7
end
end Go.Proofs.Ytoiejgmfgcdniaa
