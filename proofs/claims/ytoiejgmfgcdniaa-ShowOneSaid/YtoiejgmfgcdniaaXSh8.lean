import Derived.Test.YtoiejgmfgcdniaaXSh7
set_option linter.unusedVariables false
set_option linter.unusedSimpArgs false
namespace Go.Proofs.Ytoiejgmfgcdniaa
open Go.RowKit Go.Proofs.YtoiejgmfgcdniaaW.PrintWords

/-! ### show.Text -/
def STextPost (r : ByteArray × Int) (w : World) (e : Ending) (w' : World) : Prop :=
  e = .returned (.tuple #[.string r.1, .int .i64 r.2]) ∧ Below w.heap.size w w'
theorem cells_app (l m : List UInt8) : Lib.byteCells l ++ Lib.strCells ⟨m.toArray⟩ = Lib.byteCells (l ++ m) := by
  simp [Lib.byteCells, Lib.strCells]
theorem row2 (W : World) (base : Nat) (s u : ByteArray) : Kd.C Kd.string (W.alloc (.cells #[.string s, .string u] 9)) (some ⟨W.heap.size, 0, none⟩) 2 [s, u] :=
  lit_reads (lit_row Kd.string 9 W 0 (Nat.zero_le _) [s, u] [.string s, .string u] (((Reps.none _ _).snoc (p := s) (c := [.string s]) rfl rfl).snoc (p := u) (c := [.string u]) rfl rfl) (by simp)) rfl
theorem lines_le {t : Tree} (hr : t.right = true) (l : List Rule) (h : ∀ r ∈ l, r ∈ t.rules) : ((l.map (lineB t.nodes)).flatten).length ≤ l.length * 80304213 := by
  induction l with
  | nil => simp
  | cons r l ih =>
    have h1 := (lineT_facts hr r (h r (by simp))).2.2
    have h2 := ih (fun x hx => h x (List.mem_cons_of_mem _ hx))
    simp only [List.map_cons, List.flatten_cons, List.length_append, List.length_cons, Nat.succ_mul]
    omega
set_option maxRecDepth 100000 in
set_option maxHeartbeats 1000000 in
theorem text_wrong (t : Tree) (A0 : Option Addr) (c0 : Nat) (A1 : Option Addr) (c1 : Nat) (w : World) (ht : TreeRow w t A0 c0 A1 c1) (hr : t.right = false) :
    Calls Try.prog 28 #[.agg #[.slice A0 t.rules.length c0, .slice A1 t.nodes.length c1]] w (STextPost (showP t) w) := by
  have HT := Lib.hid ht
  clear ht
  have HB0 := Lib.hid (below_alloc (Below.refl w.heap.size w) (.cells #[.slice A0 t.rules.length c0, .slice A1 t.nodes.length c1] 25))
  have HP : Hid (showP t = (⟨#[]⟩, 1)) := Lib.hid (by unfold showP; rw [if_pos hr])
  have HR := Lib.hid hr
  clear hr
  go_enter Try.func28, Try.ntmps28
  go_wp2_with fail
  refine (right_any t A0 c0 A1 c1 _ (HT.out.below HB0.out).r0 HT.out.l0 (HT.out.below HB0.out).r1 HT.out.l1 HT.out.s1).mono ?_
  rintro e w1 ⟨rfl, hb1⟩
  rw [HR.out]
  have HB1 := Lib.hid (blw HB0.out hb1)
  clear hb1
  go_wp2_with fail
  go_ret2
  rw [HP.out]
  exact ⟨rfl, HB1.out⟩
set_option maxRecDepth 100000 in
set_option maxHeartbeats 4000000 in
theorem text_right (t : Tree) (A0 : Option Addr) (c0 : Nat) (A1 : Option Addr) (c1 : Nat) (w : World) (ht : TreeRow w t A0 c0 A1 c1) (hr : t.right = true) :
    Calls Try.prog 28 #[.agg #[.slice A0 t.rules.length c0, .slice A1 t.nodes.length c1]] w (STextPost (showP t) w) := by
  have HT := Lib.hid ht
  clear ht
  have HB0 := Lib.hid (below_alloc (Below.refl w.heap.size w) (.cells #[.slice A0 t.rules.length c0, .slice A1 t.nodes.length c1] 25))
  have HG0 := Lib.hid (blk_new w (.cells #[.slice A0 t.rules.length c0, .slice A1 t.nodes.length c1] 25))
  have HR := Lib.hid hr
  have HF := Lib.hid (right_facts hr)
  have HC := Lib.hid (right_chain hr)
  have HNM := Lib.hid (right_names hr)
  have hm0 := Kd.C_max HT.out.r0
  have hm1 := Kd.C_max HT.out.r1
  have hrl : t.rules.length ≤ 24 := HF.out.rlen
  have HLE := Lib.hid (show (showL t).length ≤ 1927301112 from Nat.le_trans (lines_le hr t.rules (fun _ h => h)) (by omega))
  have hpp : showP t = if 4000 < (showL t).length then (⟨#[]⟩, 5) else (⟨(showL t).toArray⟩, 0) := by unfold showP; rw [if_neg (by rw [hr]; decide)]
  have HPP := Lib.hid hpp
  have HSUB := Lib.hid (sub_all)
  clear hr hpp
  go_enter Try.func28, Try.ntmps28
  go_wp2_with fail
  refine (right_any t A0 c0 A1 c1 _ (HT.out.below HB0.out).r0 HT.out.l0 (HT.out.below HB0.out).r1 HT.out.l1 HT.out.s1).mono ?_
  rintro e w1 ⟨rfl, hb1⟩
  rw [HR.out]
  have hbb := blw HB0.out hb1
  have HB1 := Lib.hid hbb
  have hg1 := blk_below HG0.out hb1
  obtain ⟨z0, z1⟩ := cells2 hg1
  have hl1 := blk_lt hg1
  have hga := blk_alloc (blk_new w1 (.cells #[.slice A0 t.rules.length c0, .slice A1 t.nodes.length c1, .slice none 0 0] 136)) (.cells #[.pointer none, .slice none 0 0] 140)
  have hgt := blk_alloc (blk_alloc hg1 (.cells #[.slice A0 t.rules.length c0, .slice A1 t.nodes.length c1, .slice none 0 0] 136)) (.cells #[.pointer none, .slice none 0 0] 140)
  have hgb := Lib.fresh_isBuilder 140 5 (w1.alloc (.cells #[.slice A0 t.rules.length c0, .slice A1 t.nodes.length c1, .slice none 0 0] 136))
  rw [size_alloc] at hgb
  have hb2 := below_alloc (below_alloc hbb (.cells #[.slice A0 t.rules.length c0, .slice A1 t.nodes.length c1, .slice none 0 0] 136)) (.cells #[.pointer none, .slice none 0 0] 140)
  clear hb1 hbb hg1
  go_upto_region 5 with (fail)
  clear z0 z1
  generalize (w1.alloc (.cells #[.slice A0 t.rules.length c0, .slice A1 t.nodes.length c1, .slice none 0 0] 136)).alloc (.cells #[.pointer none, .slice none 0 0] 140) = W at *
  obtain ⟨z0, z1⟩ := cells2 hgt
  have hlt := blk_lt hgt
  have HGT := Lib.hid hgt
  have HGA := Lib.hid hga
  have HGB := Lib.hid hgb
  have HB2 := Lib.hid hb2
  have hlb := bld_lt hgb
  clear hgt hga hgb hb2
  go_wp2_with fail
  clear z0 z1
  go_loopw [17] (fun i wr => ∃ (k : Nat) (ov : Value), k ≤ t.rules.length ∧ i = .int .i64 k ∧ Hid (wr.heap[w.heap.size]? = some (.cells #[.slice A0 t.rules.length c0, .slice A1 t.nodes.length c1] 25 (0, 0))) ∧ Hid (wr.heap[w1.heap.size]? = some (.cells #[.slice A0 t.rules.length c0, .slice A1 t.nodes.length c1, ov] 136 (0, 0))) ∧
      Hid (Lib.IsBuilder 140 5 (w1.heap.size + 1) (w1.heap.size + 1) (Lib.byteCells ((t.rules.take k).map (lineB t.nodes)).flatten) wr) ∧ Hid (Below w.heap.size w wr)) (fun i _ => t.rules.length - (intOf i).toNat)
  case atStart => exact ⟨0, .slice none 0 0, Nat.zero_le _, rfl, HGT, HGA, HGB, HB2⟩
  case round =>
    clear HGT HGA HGB HB2 hlt hlb
    obtain ⟨k, ov, hk, rfl, HGT, HGA, HGB, HB⟩ := hrel
    by_cases hkl : k < t.rules.length
    · obtain ⟨ad, r, had, hx, c0', c1'⟩ := at_Rule (Kd.C_below HT.out.r0 HB.out) k hkl
      have hrm : r ∈ t.rules := List.mem_of_getElem? hx
      obtain ⟨b, hb, hbl, hbs⟩ := HC.out.bound HF.out r hrm
      obtain ⟨lf1, lf2, lf3⟩ := lineT_facts HR.out r hrm
      have HSF := Lib.hid (sh_fuel HF.out (show b < b + 1 by omega))
      have HLT := Lib.hid (show lineT t.nodes r = [r.name, tB 58] ++ sh t.nodes b ++ [tB 59] by unfold lineT; rw [hb, Int.toNat_natCast])
      have HTK := Lib.hid (show ((t.rules.take (k + 1)).map (lineB t.nodes)).flatten = ((t.rules.take k).map (lineB t.nodes)).flatten ++ lineB t.nodes r by rw [take_of hx]; simp)
      have HDL := Lib.hid (show ((t.rules.take k).map (lineB t.nodes)).flatten.length ≤ 1927301112 from Nat.le_trans (lines_le HR.out (t.rules.take k) (fun _ h => List.mem_of_mem_take h)) (by rw [List.length_take]; omega))
      have HJL := Lib.hid (show (Lib.join ((lineT t.nodes r).map (·.data.toList)) [32]).length ≤ 80304212 by unfold lineB at lf3; rw [List.length_append, List.length_singleton] at lf3; omega)
      rw [hb] at c1'
      have hl0 := HB.out.size
      have hlg := blk_lt HGA.out
      have hlb := bld_lt HGB.out
      subst had
      clear hx lf2 lf3
      have hbx := below_alloc (Below.refl wr.heap.size wr) (.cells #[.string r.name, .int .i64 b] 59)
      have hgx := blk_new wr (.cells #[.string r.name, .int .i64 b] 59)
      have hga := blk_below HGA.out hbx
      have HF1 := Lib.hid (Fr.of_below (B := w.heap.size) (Ms := []) (T := wrT) hbx)
      go_upto_region 8 with (fail)
      generalize wr.alloc (.cells #[.string r.name, .int .i64 b] 59) = W1 at *
      clear c0' c1' hbx
      have hlg1 := blk_lt hga
      have f2 := blk_frozen hga 2
      obtain ⟨_, _, y2⟩ := cells3 hga
      have hs := (blk_set hga 2 (.slice none 0 0)).trans rfl
      have hne : w1.heap.size ≠ wr.heap.size := by omega
      have HF2 := Lib.hid (HF1.out.trans (Fr.set (j := 2) (u := .slice none 0 0) hga (by simp) (show w.heap.size ≤ w1.heap.size from HB1.out.size)))
      have hgx2 : (W1.setCell ⟨w1.heap.size, 2, none⟩ (.slice none 0 0)).heap[wr.heap.size]? = some (.cells #[.string r.name, .int .i64 b] 59 (0, 0)) := by
        rw [Below.heap_setCell W1 _ _ _ (fun e => hne (by simpa using e.symm))]; exact hgx
      clear hga hgx
      go_upto_region 9 with (fail)
      clear y2 f2 hlg1
      generalize W1.setCell ⟨w1.heap.size, 2, none⟩ (.slice none 0 0) = W2 at *
      obtain ⟨x0, x1⟩ := cells2 hgx2
      have hlx := blk_lt hgx2
      have hw2 := HB.out.trans (HF2.out.toBelow HB.out.size)
      have HW2 := Lib.hid hw2
      have HS2 := Lib.hid (show WSt w.heap.size (.slice (some ad) t.rules.length c0) (.slice A1 t.nodes.length c1) W2 w1.heap.size (.slice none 0 0) [] from ⟨hs, Kd.R_nil _ _ _ _ _, HB1.out.size⟩)
      have HGX2 := Lib.hid hgx2
      have hb3 := below_alloc (Below.refl W2.heap.size W2) (.cells #[.string r.name, .string ⟨#[58]⟩] 9)
      have HB3 := Lib.hid hb3
      clear hs hgx2 hw2 hb3
      go_wp2_with fail
      refine (put_any w.heap.size _ _ (W2.alloc (.cells #[.string r.name, .string ⟨#[58]⟩] 9)) w1.heap.size _ [] (HS2.out.below HB3.out) (some ⟨W2.heap.size, 0, none⟩) [r.name, ⟨#[58]⟩] 2 2 (row2 W2 0 r.name ⟨#[58]⟩) (Nat.le_trans HW2.out.size HB3.out.size) (by simp)).mono ?_
      rintro e W3 ⟨rfl, ov3, h3, f3⟩
      have hf3 := (Fr.of_below HB3.out).trans f3
      have HS3 := Lib.hid h3
      have HF3 := Lib.hid (HF2.out.trans hf3)
      have HW3 := Lib.hid (HW2.out.trans (hf3.toBelow HW2.out.size))
      have hgx3 := hf3.blk HGX2.out (by decide) (by simp)
      obtain ⟨x0', x1'⟩ := cells2 hgx3
      have hlx3 := blk_lt hgx3
      clear h3 f3 hf3 x0 x1 hlx hgx3
      go_wp2_with fail
      have hsb := HSUB.out w (.slice (some ad) t.rules.length c0) A1 c1 t.rules t.nodes HF.out HNM.out HT.out.r1 (b + 1) b W3 w1.heap.size ov3 ([] ++ [r.name, ⟨#[58]⟩]) (by omega) hbl HW3.out HS3.out (by rw [HSF.out]; simp only [List.nil_append, List.length_cons, List.length_nil]; omega)
      rw [HSF.out, List.nil_append] at hsb
      refine hsb.mono ?_
      rintro e W4 ⟨rfl, ov4, h4, f4⟩
      have HS4 := Lib.hid h4
      have HF4 := Lib.hid (HF3.out.trans f4)
      have HW4 := Lib.hid (HW3.out.trans (f4.toBelow HW3.out.size))
      clear h4 f4 hsb x0' x1' hlx3
      go_wp2_with fail
      refine (put1_any w.heap.size _ _ W4 w1.heap.size ov4 _ HS4.out ⟨#[59]⟩ HW4.out.size (by simp only [List.length_append, List.length_cons, List.length_nil]; omega)).mono ?_
      rintro e W5 ⟨rfl, ov5, h5, f5⟩
      have hlt5 : [r.name, ⟨#[58]⟩] ++ sh t.nodes b ++ [⟨#[59]⟩] = lineT t.nodes r := HLT.out.symm
      rw [hlt5] at h5
      have HS5 := Lib.hid h5
      have HF5 := Lib.hid (HF4.out.trans f5)
      have HW5 := Lib.hid (HW4.out.trans (f5.toBelow HW4.out.size))
      obtain ⟨_, _, y5⟩ := cells3 h5.cells
      have hl5 := blk_lt h5.cells
      clear h5 f5 hlt5
      go_wp2_with fail
      refine (join_row ⟨#[32]⟩ HS5.out.out (by rw [HLT.out]; simp) (by omega) (Nat.le_trans HJL.out (by omega))).mono ?_
      rintro e W6 ⟨rfl, hb6⟩
      have HLB := Lib.hid (show lineB t.nodes r = Lib.join ((lineT t.nodes r).map (·.data.toList)) [32] ++ [10] from rfl)
      have hjl := HJL.out
      change Hid (WSt w.heap.size _ _ W5 w1.heap.size ov5 (lineT t.nodes r)) at HS5
      have eJ : (⟨#[32]⟩ : ByteArray).data.toList = [32] := rfl
      rw [eJ]
      generalize Lib.join ((lineT t.nodes r).map (·.data.toList)) [32] = J at HLB hjl ⊢
      clear HJL
      have hjs : (⟨J.toArray⟩ : ByteArray).size ≤ 80304212 := by simpa [ByteArray.size] using hjl
      have hf6 : Fr w.heap.size [] wrT W5 W6 := Fr.of_below hb6
      have HF6 := Lib.hid (HF5.out.trans hf6)
      have HG6 := Lib.hid (bld_fr (B := w.heap.size) HGB.out HF6.out)
      have HGA6 := Lib.hid (blk_below HS5.out.cells hb6)
      have HGT6 := Lib.hid (HF6.out.blk HGT.out (by decide) (by simp))
      have HW6 := Lib.hid (HW5.out.trans (hb6.mono HW5.out.size))
      clear hb6 hf6 y5 hl5 HS5
      have hdl := HDL.out
      have hba : (⟨(J ++ [10]).toArray⟩ : ByteArray) = ⟨J.toArray⟩ ++ ⟨#[10]⟩ := by
        apply ByteArray.ext
        rw [ByteArray.data_append]
        simp
      have HCA := Lib.hid (show Lib.byteCells ((t.rules.take k).map (lineB t.nodes)).flatten ++ Lib.strCells (⟨J.toArray⟩ ++ ⟨#[10]⟩) = Lib.byteCells ((t.rules.take (k + 1)).map (lineB t.nodes)).flatten by rw [← hba, cells_app, ← HLB.out, ← HTK.out])
      generalize hD : ((t.rules.take k).map (lineB t.nodes)).flatten = D at *
      have hbw6 : w1.heap.size + 1 ≤ W6.heap.size := Nat.le_of_lt (bld_lt HG6.out)
      have hss : ((⟨J.toArray⟩ : ByteArray) ++ ⟨#[10]⟩).size ≤ 80304213 := by
        rw [ByteArray.size_append]
        have h1 : (⟨#[10]⟩ : ByteArray).size = 1 := rfl
        omega
      clear hba
      go_wp2_with fail
      generalize (⟨J.toArray⟩ : ByteArray) ++ ⟨#[10]⟩ = S at HCA hss ⊢
      have hws := Try.Builder_WriteString (w1.heap.size + 1) (w1.heap.size + 1) (Lib.byteCells D) S W6 HG6.out (by rw [Lib.byteCells_length]; omega) hbw6
      refine hws.mono ?_
      rintro e W7 ⟨rfl, h7, hb7⟩
      rw [HCA.out] at h7
      have HG7 := Lib.hid (show Lib.IsBuilder 140 5 (w1.heap.size + 1) (w1.heap.size + 1) _ W7 from .inr h7)
      have HGT7 := Lib.hid ((hb7.block _ (by have := HB1.out.size; omega)).trans HGT6.out)
      have HGA7 := Lib.hid ((hb7.block _ (by omega)).trans HGA6.out)
      have HW7 := Lib.hid (HW6.out.trans (hb7.mono (by have := HB1.out.size; omega)))
      clear h7 hb7
      go_wp2_with fail
      go_roundw
      case rel => exact ⟨k + 1, ov5, by omega, by go_num, HGT7, HGA7, HG7, HW7⟩
      case measure => simp [intOf]; omega
    · have HE : Hid (((t.rules.take k).map (lineB t.nodes)).flatten = showL t) := Lib.hid (by rw [List.take_of_length_le (by omega)]; rfl)
      rw [HE.out] at HGB
      have hle := HLE.out
      generalize showL t = L at *
      have hlb := bld_lt HGB.out
      go_wp2_with fail
      refine (Try.Builder_Len (w1.heap.size + 1) (w1.heap.size + 1) _ wr HGB.out).mono ?_
      rintro e V ⟨rfl, rfl⟩
      rw [Lib.byteCells_length]
      by_cases hbig : 4000 < L.length
      · have HQ := Lib.hid (HPP.out.trans (if_pos hbig))
        go_wp2_with fail
        go_ret2
        rw [HQ.out]
        exact ⟨rfl, HB.out⟩
      · have HQ := Lib.hid (HPP.out.trans (if_neg hbig))
        go_wp2_with fail
        refine (Try.Builder_String_any (w1.heap.size + 1) (w1.heap.size + 1) L V HGB.out (by omega)).mono ?_
        rintro e V2 ⟨rfl, hbv⟩
        have HBV := Lib.hid (HB.out.trans (hbv.mono (by have := HB1.out.size; omega)))
        clear hbv
        go_wp2_with fail
        go_ret2
        rw [HQ.out]
        exact ⟨rfl, HBV.out⟩
theorem stext_any (t : Tree) (A0 : Option Addr) (c0 : Nat) (A1 : Option Addr) (c1 : Nat) (w : World) (ht : TreeRow w t A0 c0 A1 c1) :
    Calls Try.prog 28 #[.agg #[.slice A0 t.rules.length c0, .slice A1 t.nodes.length c1]] w (STextPost (showP t) w) := by
  cases hr : t.right with
  | false => exact text_wrong t A0 c0 A1 c1 w ht hr
  | true => exact text_right t A0 c0 A1 c1 w ht hr
end Go.Proofs.Ytoiejgmfgcdniaa
