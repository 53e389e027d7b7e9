import Derived.Test.YtoiejgmfgcdniaaXSh5
import Derived.Test.YtoiejgmfgcdniaaXLower10
import Derived.Test.YtoiejgmfgcdniaaXShelf2
set_option linter.unusedVariables false
set_option linter.unusedSimpArgs false
namespace Go.Proofs.Ytoiejgmfgcdniaa
open Go.RowKit Go.Proofs.YtoiejgmfgcdniaaW.PrintWords

/-! ### show.Tokens -/
def bodyOf (t : Tree) (rule : Int) : Nat := match t.rules[rule.toNat]? with | some r => r.body.toNat | none => 0
def tokP (t : Tree) (rule : Int) : List ByteArray × Int :=
  if t.right = false then ([], 1) else if rule < 0 ∨ rule ≥ t.rules.length then ([], 11) else (sh t.nodes (bodyOf t rule), 0)
def TokPost (r : List ByteArray × Int) (w : World) (e : Ending) (w' : World) : Prop :=
  ∃ v, e = .returned (.tuple #[v, .int .i64 r.2]) ∧ Kd.R Kd.string 9 w' w.heap.size (fun _ => True) v r.1 ∧ Below w.heap.size w w'
theorem right_names {t : Tree} (h : t.right = true) : ∀ x ∈ t.nodes, x.name.size ≤ 100000 := fun x hx => by
  have P := right_parts h
  have := fine_size (P.fine x hx) P.names
  omega
set_option maxRecDepth 100000 in
set_option maxHeartbeats 4000000 in
theorem tokens_any (t : Tree) (A0 : Option Addr) (c0 : Nat) (A1 : Option Addr) (c1 : Nat) (rule : Int) (w : World) (ht : TreeRow w t A0 c0 A1 c1) :
    Calls Try.prog 30 #[.agg #[.slice A0 t.rules.length c0, .slice A1 t.nodes.length c1], .int .i64 rule] w (TokPost (tokP t rule) w) := by
  have HT := Lib.hid ht
  clear ht
  have hb0 := below_alloc (Below.refl w.heap.size w) (.cells #[.slice A0 t.rules.length c0, .slice A1 t.nodes.length c1] 25)
  have hg0 := blk_new w (.cells #[.slice A0 t.rules.length c0, .slice A1 t.nodes.length c1] 25)
  have HB0 := Lib.hid hb0
  have HG0 := Lib.hid hg0
  clear hb0 hg0
  cases hr : t.right with
  | false =>
    have HP : Hid (tokP t rule = ([], 1)) := Lib.hid (by unfold tokP; rw [if_pos hr])
    have HR := Lib.hid hr
    clear hr
    go_enter Try.func30, Try.ntmps30
    go_wp2_with fail
    refine (right_any t A0 c0 A1 c1 _ (HT.out.below HB0.out).r0 HT.out.l0 (HT.out.below HB0.out).r1 HT.out.l1 HT.out.s1).mono ?_
    rintro e w1 ⟨rfl, hb1⟩
    rw [HR.out]
    have HB1 := Lib.hid (blw HB0.out hb1)
    clear hb1
    go_wp2_with fail
    go_ret2
    rw [HP.out]
    exact ⟨_, rfl, Kd.R_nil _ _ _ _ _, HB1.out⟩
  | true =>
    have HR := Lib.hid hr
    have F := right_facts hr
    have HF := Lib.hid F
    have hm0 := Kd.C_max HT.out.r0
    have hm1 := Kd.C_max HT.out.r1
    by_cases hrg : rule < 0 ∨ rule ≥ t.rules.length
    · have HP : Hid (tokP t rule = ([], 11)) := Lib.hid (by unfold tokP; rw [if_neg (by rw [hr]; decide), if_pos hrg])
      clear hr F
      go_enter Try.func30, Try.ntmps30
      go_wp2_with fail
      refine (right_any t A0 c0 A1 c1 _ (HT.out.below HB0.out).r0 HT.out.l0 (HT.out.below HB0.out).r1 HT.out.l1 HT.out.s1).mono ?_
      rintro e w1 ⟨rfl, hb1⟩
      rw [HR.out]
      have HB1 := Lib.hid (blw HB0.out hb1)
      have hg1 := blk_below HG0.out hb1
      obtain ⟨z0, z1⟩ := cells2 hg1
      clear hb1 hg1
      by_cases h0 : rule < 0
      · go_wp2_with fail
        go_ret2
        rw [HP.out]
        exact ⟨_, rfl, Kd.R_nil _ _ _ _ _, HB1.out⟩
      · go_wp2_with fail
        go_ret2
        rw [HP.out]
        exact ⟨_, rfl, Kd.R_nil _ _ _ _ _, HB1.out⟩
    · obtain ⟨k, rfl⟩ : ∃ k : Nat, rule = k := ⟨rule.toNat, by omega⟩
      have hk : k < t.rules.length := by omega
      obtain ⟨ad, r, had, hx, c0', c1'⟩ := at_Rule HT.out.r0 k hk
      obtain ⟨b, hb, hbl, hbs⟩ := (right_chain hr).bound F r (List.mem_of_getElem? hx)
      have HP : Hid (tokP t k = (sh t.nodes b, 0)) := Lib.hid (by
        unfold tokP bodyOf; rw [if_neg (by rw [hr]; decide), if_neg hrg, Int.toNat_natCast, hx]
        simp only [hb, Int.toNat_natCast])
      have HSUB := Lib.hid (sub_all)
      have HNM := Lib.hid (right_names hr)
      have HX := Lib.hid hx
      have C1 := Lib.hid c1'
      have HSF := Lib.hid (sh_fuel F (show b < b + 1 by omega))
      subst had
      clear hr F hx c0' c1'
      go_enter Try.func30, Try.ntmps30
      go_wp2_with fail
      refine (right_any t _ c0 A1 c1 _ (HT.out.below HB0.out).r0 HT.out.l0 (HT.out.below HB0.out).r1 HT.out.l1 HT.out.s1).mono ?_
      rintro e w1 ⟨rfl, hb1⟩
      rw [HR.out]
      have HB1 := Lib.hid (blw HB0.out hb1)
      have hg1 := blk_below HG0.out hb1
      obtain ⟨z0, z1⟩ := cells2 hg1
      have hl1 := blk_lt hg1
      clear hb1
      have hb2 := below_alloc HB1.out (.cells #[.slice (some ad) t.rules.length c0, .slice A1 t.nodes.length c1, .slice none 0 0] 136)
      have hb21 := below_alloc (Below.refl w1.heap.size w1) (.cells #[.slice (some ad) t.rules.length c0, .slice A1 t.nodes.length c1, .slice none 0 0] 136)
      have hg2 := blk_new w1 (.cells #[.slice (some ad) t.rules.length c0, .slice A1 t.nodes.length c1, .slice none 0 0] 136)
      have hgg := blk_below hg1 hb21
      obtain ⟨y0, y1⟩ := cells2 hgg
      have e1 := pw_cell_below hb2 C1.out
      rw [hb] at e1
      have HB2 := Lib.hid hb2
      have HB21 := Lib.hid hb21
      have HG2 := Lib.hid hg2
      have hl2 := blk_lt hgg
      clear hg1 hb2 hb21 hg2 hgg
      go_upto_region 6 with (fail)
      clear z0 z1 hl1
      generalize hW : w1.alloc (.cells #[.slice (some ad) t.rules.length c0, .slice A1 t.nodes.length c1, .slice none 0 0] 136) = W at *
      clear hW
      go_wp2_with fail
      have hsb := HSUB.out w (.slice (some ad) t.rules.length c0) A1 c1 t.rules t.nodes HF.out HNM.out HT.out.r1 (b + 1) b W w1.heap.size (.slice none 0 0) [] (by omega) hbl HB2.out ⟨HG2.out, Kd.R_nil _ _ _ _ _, HB1.out.size⟩ (by rw [HSF.out]; simp only [List.length_nil]; omega)
      rw [HSF.out, List.nil_append] at hsb
      refine hsb.mono ?_
      rintro e w3 ⟨rfl, ov, h3, f3⟩
      have HB3 := Lib.hid (HB2.out.trans (f3.toBelow HB2.out.size))
      obtain ⟨_, _, x2⟩ := cells3 h3.cells
      have HO := Lib.hid h3.out
      have hl3 := blk_lt h3.cells
      clear h3 f3 hsb
      go_wp2_with fail
      go_ret2
      rw [HP.out]
      exact ⟨_, rfl, HO.out, HB3.out⟩
end Go.Proofs.Ytoiejgmfgcdniaa
namespace Go.Proofs.Ytoiejgmfgcdniaa
open Go.RowKit Go.Proofs.YtoiejgmfgcdniaaW.PrintWords

/-! ### show.Text: the small words -/
theorem join_row {base : Nat} {w : World} {v : Value} {xs : List ByteArray} (sep : ByteArray) (h : Kd.R Kd.string 9 w base (fun _ => True) v xs) (hne : xs ≠ []) (hN : xs.length ≤ 1000000) (hlen : (Lib.join (xs.map (·.data.toList)) sep.data.toList).length ≤ 140737488355328) :
    Calls Try.prog 73 #[v, .string sep] w fun e w' => e = .returned (.string ⟨(Lib.join (xs.map (·.data.toList)) sep.data.toList).toArray⟩) ∧ Below w.heap.size w w' := by
  have hpos : 0 < xs.length := List.length_pos_iff.2 hne
  obtain ⟨A, c', rfl, hc', hC⟩ := Kd.R_reads h
  obtain ⟨inner, ho⟩ := Kd.R_own h
  obtain ⟨_, ⟨e1, e2⟩ | ⟨g, cap, cur, e1, _, hg, hcap, _⟩⟩ := ho
  · omega
  · injection e1 with e1 _ _
    subst e1
    have hlt : g < w.heap.size := by
      rcases Nat.lt_or_ge g w.heap.size with h' | h'
      · exact h'
      · simp [Array.getElem?_eq_none h'] at hg
    refine Try.strings_Join g 0 c' xs sep w (fun j x hx => ?_) hlt (by omega) (by omega) hlen
    obtain ⟨ad, y, had, hy, hz⟩ := at_string hC j (List.getElem?_eq_some_iff.1 hx).1
    obtain rfl : x = y := by rw [hx] at hy; exact Option.some.inj hy
    injection had with had
    subst had
    have ea : (⟨g, 0, none⟩ : Addr).add j = ⟨g, 0 + j, none⟩ := by
      by_cases h0 : j = 0
      · subst h0; simp [Addr.add]
      · simp [Addr.add, h0]
    rwa [ea] at hz
theorem bld_fr {B b : Nat} {bs : List Value} {w w1 : World} (h : Lib.IsBuilder 140 5 b b bs w) (k : Fr B [] wrT w w1) : Lib.IsBuilder 140 5 b b bs w1 := by
  have key : ∀ p, Lib.BuilderAt 140 5 b b p bs w → Lib.BuilderAt 140 5 b b p bs w1 := by
    rintro p ⟨hB, v, hb, hown, hne⟩
    refine ⟨hB, v, k.blk hb (by decide) (by simp), ?_, hne⟩
    obtain ⟨h1, ⟨h2, h3⟩ | ⟨g, cap, cur, h2, h3, h4, h5⟩⟩ := hown
    · exact ⟨h1, .inl ⟨h2, h3⟩⟩
    · exact ⟨h1, .inr ⟨g, cap, cur, h2, h3, k.blk h4 (by decide) (by simp), h5⟩⟩
  exact h.imp (key _) (key _)
theorem bld_lt {b : Nat} {bs : List Value} {w : World} (h : Lib.IsBuilder 140 5 b b bs w) : b < w.heap.size := h.elim (·.lt) (·.lt)
/-- The line of a rule. -/
def lineT (ns : List Node) (r : Rule) : List ByteArray := [r.name, tB 58] ++ sh ns r.body.toNat ++ [tB 59]
def lineB (ns : List Node) (r : Rule) : List UInt8 := Lib.join ((lineT ns r).map (·.data.toList)) [32] ++ [10]
def showL (t : Tree) : List UInt8 := (t.rules.map (lineB t.nodes)).flatten
def showP (t : Tree) : ByteArray × Int := if t.right = false then (⟨#[]⟩, 1) else if 4000 < (showL t).length then (⟨#[]⟩, 5) else (⟨(showL t).toArray⟩, 0)
theorem shN_size (ns : List Node) (hnm : ∀ x ∈ ns, x.name.size ≤ 100000) : ∀ f n, ∀ s ∈ shN ns f n, s.size ≤ 100002 := by
  intro f
  induction f with
  | zero => intro n s h; simp [shN] at h
  | succ f ih =>
    intro n s h
    rw [shN] at h
    cases hx : ns[n]? with
    | none => rw [hx] at h; simp at h
    | some x =>
      rw [hx] at h
      simp only at h
      have hn := hnm x (List.mem_of_getElem? hx)
      have hA : ∀ n x, ∀ s ∈ shAtom ns (shN ns f) n x, s.size ≤ 100002 := fun n x s hs => by
        unfold shAtom at hs
        split at hs
        · exact ih n s hs
        · simp only [List.mem_append, List.mem_singleton] at hs
          rcases hs with (rfl | hs) | rfl
          · exact Nat.le_trans (show (tB 40).size ≤ 1 from Nat.le_refl _) (by omega)
          · exact ih n s hs
          · exact Nat.le_trans (show (tB 41).size ≤ 1 from Nat.le_refl _) (by omega)
      have hI : ∀ n x, ∀ s ∈ shItem ns (shN ns f) n x, s.size ≤ 100002 := fun n x s hs => by
        unfold shItem at hs
        split at hs
        · exact ih n s hs
        · exact hA n x s hs
      have hL : ∀ n x, ∀ s ∈ shAlt ns (shN ns f) n x, s.size ≤ 100002 := fun n x s hs => by
        unfold shAlt at hs
        split at hs
        · exact ih n s hs
        · exact hI n x s hs
      have hK : ∀ (P : Nat → Node → List ByteArray), (∀ n x, ∀ s ∈ P n x, s.size ≤ 100002) → ∀ k, ∀ s ∈ atK ns P k, s.size ≤ 100002 := fun P hP k s hs => by
        unfold atK at hs
        split at hs
        · exact hP _ _ s hs
        · simp at hs
      unfold shNode at h
      split at h
      · rw [List.mem_singleton] at h; subst h; omega
      split at h
      · rw [List.mem_singleton] at h; subst h
        unfold quoteB
        rw [ByteArray.size_append, ByteArray.size_append]
        have : (tB 39).size = 1 := rfl
        omega
      split at h
      · simp only [List.mem_flatten, List.mem_map] at h
        obtain ⟨l, ⟨k, _, rfl⟩, hs⟩ := h
        exact hK _ hI k s hs
      split at h
      · generalize x.kids = ks at h
        cases ks with
        | nil => simp [inter] at h
        | cons k ks =>
          simp only [List.map_cons, inter, List.mem_append, List.mem_flatten, List.mem_map] at h
          rcases h with h | ⟨l, ⟨l2, ⟨k2, _, rfl⟩, rfl⟩, hs⟩
          · exact hK _ hL k s h
          · simp only [List.singleton_append, List.mem_cons] at hs
            rcases hs with rfl | hs
            · exact Nat.le_trans (show (tB 124).size ≤ 1 from Nat.le_refl _) (by omega)
            · exact hK _ hL k2 s hs
      · simp only [List.mem_append, List.mem_singleton] at h
        rcases h with h | rfl
        · exact hK _ hA _ s h
        · unfold mkOf
          split
          · exact Nat.le_trans (show (tB 42).size ≤ 1 from Nat.le_refl _) (by omega)
          split
          · exact Nat.le_trans (show (tB 43).size ≤ 1 from Nat.le_refl _) (by omega)
          split
          · exact Nat.le_trans (show (tB 63).size ≤ 1 from Nat.le_refl _) (by omega)
          · exact Nat.zero_le _
theorem lens_le (m : Nat) : ∀ xs : List ByteArray, (∀ s ∈ xs, s.size ≤ m) → Lib.lens (xs.map (·.data.toList)) ≤ xs.length * m := by
  intro xs
  induction xs with
  | nil => intro _; simp [Lib.lens]
  | cons x xs ih =>
    intro h
    have h1 := h x (by simp)
    have h2 := ih (fun y hy => h y (List.mem_cons_of_mem _ hy))
    have h3 : x.data.toList.length = x.size := by rw [Array.length_toList]; rfl
    simp only [Lib.lens, List.map_cons, List.sum_cons, List.length_cons, Nat.succ_mul] at h2 ⊢
    omega
theorem join_le (m : Nat) (xs : List ByteArray) (h : ∀ s ∈ xs, s.size ≤ m) : (Lib.join (xs.map (·.data.toList)) [32]).length ≤ xs.length * (m + 1) := by
  cases xs with
  | nil => simp [Lib.join_nil]
  | cons x xs =>
    have := lens_le m (x :: xs) h
    rw [List.map_cons] at this ⊢
    rw [Lib.join_length, List.length_map, show ([32] : List UInt8).length = 1 from rfl, Nat.one_mul]
    simp only [List.length_cons, Nat.mul_add, Nat.mul_one] at this ⊢
    omega
theorem lineT_facts {t : Tree} (hr : t.right = true) (r : Rule) (hm : r ∈ t.rules) : (lineT t.nodes r).length ≤ 803 ∧ (∀ s ∈ lineT t.nodes r, s.size ≤ 100002) ∧ (lineB t.nodes r).length ≤ 80304213 := by
  obtain ⟨b, hb, _, hl⟩ := (right_chain hr).bound (right_facts hr) r hm
  have P := right_parts hr
  have h1 : (lineT t.nodes r).length ≤ 803 := by
    unfold lineT
    rw [hb, Int.toNat_natCast]
    simp only [List.length_append, List.length_cons, List.length_nil]
    omega
  have h2 : ∀ s ∈ lineT t.nodes r, s.size ≤ 100002 := by
    intro s hs
    unfold lineT at hs
    simp only [List.mem_append, List.mem_cons, List.mem_singleton, List.not_mem_nil, or_false] at hs
    rcases hs with ((rfl | rfl) | hs) | rfl
    · have := (P.names r hm).2; omega
    · exact Nat.le_trans (show (tB 58).size ≤ 1 from Nat.le_refl _) (by omega)
    · exact shN_size t.nodes (right_names hr) _ _ s hs
    · exact Nat.le_trans (show (tB 59).size ≤ 1 from Nat.le_refl _) (by omega)
  refine ⟨h1, h2, ?_⟩
  unfold lineB
  rw [List.length_append, List.length_singleton]
  have h3 := join_le 100002 _ h2
  have h4 : (lineT t.nodes r).length * 100003 ≤ 803 * 100003 := Nat.mul_le_mul_right _ h1
  omega
end Go.Proofs.Ytoiejgmfgcdniaa
