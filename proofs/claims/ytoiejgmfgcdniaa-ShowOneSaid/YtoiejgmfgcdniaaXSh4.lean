import Derived.Test.YtoiejgmfgcdniaaXSh3
import Derived.Test.YtoiejgmfgcdniaaXRules4
import Derived.Test.YtoiejgmfgcdniaaXTail
set_option linter.unusedVariables false
set_option linter.unusedSimpArgs false
namespace Go.Proofs.Ytoiejgmfgcdniaa
open Go.RowKit Go.Proofs.YtoiejgmfgcdniaaW.PrintWords

/-! ### show: node -/
theorem atK_eq {ns : List Node} {P : Nat → Node → List ByteArray} {k : Int} {x : Node} (h : ns[k.toNat]? = some x) : atK ns P k = P k.toNat x := by unfold atK; rw [h]
section
variable (w0 : World) (rv : Value) (A1 : Option Addr) (c1 : Nat) (ns : List Node) (sub : Nat → List ByteArray) (f : Nat) (hsub : Sub w0 rv A1 c1 ns sub f)
include hsub
set_option maxRecDepth 100000 in
set_option maxHeartbeats 2000000 in
theorem node_call (n : Nat) (x : Node) (hx : ns[n]? = some x) (hks : ∀ k ∈ x.kids, 0 ≤ k ∧ k.toNat < f ∧ k.toNat < ns.length) (hr : Kd.C kNode w0 A1 ns.length ns) (hkind : x.kind = 6)
    (w : World) (g : Nat) (ov : Value) (out : List ByteArray) (hw : Below w0.heap.size w0 w) (h : WSt w0.heap.size rv (.slice A1 ns.length c1) w g ov out) (hl : out.length + (shNode ns sub x).length ≤ 1000000) :
    Calls Try.prog 71 #[.pointer (some ⟨g, 0, none⟩), .int .i64 n] w (PutPost w0.heap.size rv (.slice A1 ns.length c1) w g (out ++ shNode ns sub x)) := by
  have hlt : n < ns.length := (List.getElem?_eq_some_iff.1 hx).1
  obtain ⟨ad, x', A2, c2, had, hx', e0', e1', e2', l2, k2⟩ := at_Node hr n hlt
  obtain rfl : x = x' := by rw [hx] at hx'; exact Option.some.inj hx'
  have e0 := pw_cell_below hw e0'
  have e1 := pw_cell_below hw e1'
  have e2 := pw_cell_below hw e2'
  subst had
  obtain ⟨d0, d1, d2⟩ := cells3 h.cells
  have hm := Kd.C_max hr
  have hgl := blk_lt h.cells
  have b6 : (x.kind == 6) = true := by rw [hkind]; rfl
  have b7 : (x.kind == 7) = false := by rw [hkind]; rfl
  have b1 : (x.kind == 1) = false := by rw [hkind]; rfl
  have b2 : (x.kind == 2) = false := by rw [hkind]; rfl
  have HP : Hid (shNode ns sub x = [x.name]) := Lib.hid (by unfold shNode; rw [if_pos hkind])
  have hcf1 := cf124
  have hcf2 := cf125
  have hcf3 := cf126
  have hmf : ∀ (fn : Fn) (first cap : Array Value) (w : World), (Instr.makeFunc fn first cap).run Try.prog w = .ok (.func fn first cap) w := fun _ _ _ _ => rfl
  have H := Lib.hid h
  have HW := Lib.hid hw
  have HR := Lib.hid hr
  have K2 := Lib.hid k2
  have HKS := Lib.hid hks
  have HSUB := Lib.hid hsub
  have hga := blk_new w (.cells #[.pointer (some ⟨g, 0, none⟩)] 134)
  have hba := below_alloc (Below.refl w.heap.size w) (.cells #[.pointer (some ⟨g, 0, none⟩)] 134)
  have E0 := Lib.hid (pw_cell_below hba e0)
  have E1 := Lib.hid (pw_cell_below hba e1)
  have E2 := Lib.hid (pw_cell_below hba e2)
  have D1 := Lib.hid (pw_cell_below hba d1)
  clear h hw hx hx' e0' e1' e2' l2 k2 hr hks hsub hkind e0 e1 e2 d0 d1 d2
  go_enter Try.func71, Try.ntmps71
  go_upto_region 1 with (fail)
  generalize w.alloc (.cells #[.pointer (some ⟨g, 0, none⟩)] 134) = Y at *
  have hg0 := blk_alloc hga (.cells #[.int .i64 x.kind, .string x.name, .slice A2 x.kids.length c2] 57)
  have hg1 := blk_new Y (.cells #[.int .i64 x.kind, .string x.name, .slice A2 x.kids.length c2] 57)
  have hbb := below_alloc hba (.cells #[.int .i64 x.kind, .string x.name, .slice A2 x.kids.length c2] 57)
  have q0 : Y.cell? ⟨w.heap.size, 0, none⟩ = some (.pointer (some ⟨g, 0, none⟩)) := (blk_cell hga 0).trans rfl
  have hla := blk_lt hga
  have e0 := E0.out
  have e1 := E1.out
  have e2 := E2.out
  have d1 := D1.out
  have hgY := Nat.lt_of_lt_of_le hgl hba.size
  clear hga hba hgl E0 E1 E2 D1
  go_upto_region 2 with (fail)
  clear e0 e1 e2 d1 q0
  generalize Y.alloc (.cells #[.int .i64 x.kind, .string x.name, .slice A2 x.kids.length c2] 57) = W at *
  obtain ⟨r0, r1, r2⟩ := cells3 hg1
  have q0 : W.cell? ⟨w.heap.size, 0, none⟩ = some (.pointer (some ⟨g, 0, none⟩)) := (blk_cell hg0 0).trans rfl
  have hl0 := blk_lt hg0
  have hl1 := blk_lt hg1
  have HG0 := Lib.hid hg0
  have HG1 := Lib.hid hg1
  have HB := Lib.hid hbb
  have HS := Lib.hid (H.out.below hbb)
  have HWW := Lib.hid (HW.out.trans (hbb.mono HW.out.size))
  have HF := Lib.hid (Fr.of_below (B := w0.heap.size) (Ms := []) (T := wrT) hbb)
  clear hg0 hg1 hbb
  rw [HP.out] at hl ⊢
  simp only [List.length_singleton] at hl
  go_wp2_with fail
  refine (put1_any w0.heap.size rv _ W g ov out HS.out x.name HWW.out.size hl).mono ?_
  rintro e V ⟨rfl, ov1, h1, f1⟩
  have H1 := Lib.hid h1
  have F1 := Lib.hid (HF.out.trans f1)
  clear h1 f1
  go_wp2_with fail
  go_end0
  exact ⟨rfl, ov1, by rw [HP.out]; exact H1.out, F1.out⟩
set_option maxRecDepth 100000 in
set_option maxHeartbeats 2000000 in
theorem node_term (n : Nat) (x : Node) (hx : ns[n]? = some x) (hks : ∀ k ∈ x.kids, 0 ≤ k ∧ k.toNat < f ∧ k.toNat < ns.length) (hr : Kd.C kNode w0 A1 ns.length ns) (hkind : x.kind = 7) (hnm : x.name.size ≤ 100000)
    (w : World) (g : Nat) (ov : Value) (out : List ByteArray) (hw : Below w0.heap.size w0 w) (h : WSt w0.heap.size rv (.slice A1 ns.length c1) w g ov out) (hl : out.length + (shNode ns sub x).length ≤ 1000000) :
    Calls Try.prog 71 #[.pointer (some ⟨g, 0, none⟩), .int .i64 n] w (PutPost w0.heap.size rv (.slice A1 ns.length c1) w g (out ++ shNode ns sub x)) := by
  have hlt : n < ns.length := (List.getElem?_eq_some_iff.1 hx).1
  obtain ⟨ad, x', A2, c2, had, hx', e0', e1', e2', l2, k2⟩ := at_Node hr n hlt
  obtain rfl : x = x' := by rw [hx] at hx'; exact Option.some.inj hx'
  have e0 := pw_cell_below hw e0'
  have e1 := pw_cell_below hw e1'
  have e2 := pw_cell_below hw e2'
  subst had
  obtain ⟨d0, d1, d2⟩ := cells3 h.cells
  have hm := Kd.C_max hr
  have hgl := blk_lt h.cells
  have b6 : (x.kind == 6) = false := by rw [hkind]; rfl
  have b7 : (x.kind == 7) = true := by rw [hkind]; rfl
  have b1 : (x.kind == 1) = false := by rw [hkind]; rfl
  have b2 : (x.kind == 2) = false := by rw [hkind]; rfl
  have HP : Hid (shNode ns sub x = [quoteB x.name]) := Lib.hid (by unfold shNode; rw [if_neg (by omega), if_pos hkind])
  have hcf1 := cf124
  have hcf2 := cf125
  have hcf3 := cf126
  have hmf : ∀ (fn : Fn) (first cap : Array Value) (w : World), (Instr.makeFunc fn first cap).run Try.prog w = .ok (.func fn first cap) w := fun _ _ _ _ => rfl
  have H := Lib.hid h
  have HW := Lib.hid hw
  have HR := Lib.hid hr
  have K2 := Lib.hid k2
  have HKS := Lib.hid hks
  have HSUB := Lib.hid hsub
  have hga := blk_new w (.cells #[.pointer (some ⟨g, 0, none⟩)] 134)
  have hba := below_alloc (Below.refl w.heap.size w) (.cells #[.pointer (some ⟨g, 0, none⟩)] 134)
  have E0 := Lib.hid (pw_cell_below hba e0)
  have E1 := Lib.hid (pw_cell_below hba e1)
  have E2 := Lib.hid (pw_cell_below hba e2)
  have D1 := Lib.hid (pw_cell_below hba d1)
  clear h hw hx hx' e0' e1' e2' l2 k2 hr hks hsub hkind e0 e1 e2 d0 d1 d2
  go_enter Try.func71, Try.ntmps71
  go_upto_region 1 with (fail)
  generalize w.alloc (.cells #[.pointer (some ⟨g, 0, none⟩)] 134) = Y at *
  have hg0 := blk_alloc hga (.cells #[.int .i64 x.kind, .string x.name, .slice A2 x.kids.length c2] 57)
  have hg1 := blk_new Y (.cells #[.int .i64 x.kind, .string x.name, .slice A2 x.kids.length c2] 57)
  have hbb := below_alloc hba (.cells #[.int .i64 x.kind, .string x.name, .slice A2 x.kids.length c2] 57)
  have q0 : Y.cell? ⟨w.heap.size, 0, none⟩ = some (.pointer (some ⟨g, 0, none⟩)) := (blk_cell hga 0).trans rfl
  have hla := blk_lt hga
  have e0 := E0.out
  have e1 := E1.out
  have e2 := E2.out
  have d1 := D1.out
  have hgY := Nat.lt_of_lt_of_le hgl hba.size
  clear hga hba hgl E0 E1 E2 D1
  go_upto_region 2 with (fail)
  clear e0 e1 e2 d1 q0
  generalize Y.alloc (.cells #[.int .i64 x.kind, .string x.name, .slice A2 x.kids.length c2] 57) = W at *
  obtain ⟨r0, r1, r2⟩ := cells3 hg1
  have q0 : W.cell? ⟨w.heap.size, 0, none⟩ = some (.pointer (some ⟨g, 0, none⟩)) := (blk_cell hg0 0).trans rfl
  have hl0 := blk_lt hg0
  have hl1 := blk_lt hg1
  have HG0 := Lib.hid hg0
  have HG1 := Lib.hid hg1
  have HB := Lib.hid hbb
  have HS := Lib.hid (H.out.below hbb)
  have HWW := Lib.hid (HW.out.trans (hbb.mono HW.out.size))
  have HF := Lib.hid (Fr.of_below (B := w0.heap.size) (Ms := []) (T := wrT) hbb)
  clear hg0 hg1 hbb
  rw [HP.out] at hl ⊢
  simp only [List.length_singleton] at hl
  have hz1 : (⟨#[39]⟩ : ByteArray).size = 1 := rfl
  go_wp2_with fail
  refine (put1_any w0.heap.size rv _ W g ov out HS.out (quoteB x.name) HWW.out.size hl).mono ?_
  rintro e V ⟨rfl, ov1, h1, f1⟩
  have H1 := Lib.hid h1
  have F1 := Lib.hid (HF.out.trans f1)
  clear h1 f1
  go_wp2_with fail
  go_end0
  exact ⟨rfl, ov1, by rw [HP.out]; exact H1.out, F1.out⟩
set_option maxRecDepth 100000 in
set_option maxHeartbeats 2000000 in
theorem node_seqs (n : Nat) (x : Node) (hx : ns[n]? = some x) (hks : ∀ k ∈ x.kids, 0 ≤ k ∧ k.toNat < f ∧ k.toNat < ns.length) (hr : Kd.C kNode w0 A1 ns.length ns) (hkind : x.kind = 1)
    (w : World) (g : Nat) (ov : Value) (out : List ByteArray) (hw : Below w0.heap.size w0 w) (h : WSt w0.heap.size rv (.slice A1 ns.length c1) w g ov out) (hl : out.length + (shNode ns sub x).length ≤ 1000000) :
    Calls Try.prog 71 #[.pointer (some ⟨g, 0, none⟩), .int .i64 n] w (PutPost w0.heap.size rv (.slice A1 ns.length c1) w g (out ++ shNode ns sub x)) := by
  have hlt : n < ns.length := (List.getElem?_eq_some_iff.1 hx).1
  obtain ⟨ad, x', A2, c2, had, hx', e0', e1', e2', l2, k2⟩ := at_Node hr n hlt
  obtain rfl : x = x' := by rw [hx] at hx'; exact Option.some.inj hx'
  have e0 := pw_cell_below hw e0'
  have e1 := pw_cell_below hw e1'
  have e2 := pw_cell_below hw e2'
  subst had
  obtain ⟨d0, d1, d2⟩ := cells3 h.cells
  have hm := Kd.C_max hr
  have hgl := blk_lt h.cells
  have b6 : (x.kind == 6) = false := by rw [hkind]; rfl
  have b7 : (x.kind == 7) = false := by rw [hkind]; rfl
  have b1 : (x.kind == 1) = true := by rw [hkind]; rfl
  have b2 : (x.kind == 2) = false := by rw [hkind]; rfl
  have HP : Hid (shNode ns sub x = (x.kids.map (atK ns (shItem ns sub))).flatten) := Lib.hid (by unfold shNode; rw [if_neg (by omega), if_neg (by omega), if_pos hkind])
  have hcf1 := cf124
  have hcf2 := cf125
  have hcf3 := cf126
  have hmf : ∀ (fn : Fn) (first cap : Array Value) (w : World), (Instr.makeFunc fn first cap).run Try.prog w = .ok (.func fn first cap) w := fun _ _ _ _ => rfl
  have H := Lib.hid h
  have HW := Lib.hid hw
  have HR := Lib.hid hr
  have K2 := Lib.hid k2
  have HKS := Lib.hid hks
  have HSUB := Lib.hid hsub
  have hga := blk_new w (.cells #[.pointer (some ⟨g, 0, none⟩)] 134)
  have hba := below_alloc (Below.refl w.heap.size w) (.cells #[.pointer (some ⟨g, 0, none⟩)] 134)
  have E0 := Lib.hid (pw_cell_below hba e0)
  have E1 := Lib.hid (pw_cell_below hba e1)
  have E2 := Lib.hid (pw_cell_below hba e2)
  have D1 := Lib.hid (pw_cell_below hba d1)
  clear h hw hx hx' e0' e1' e2' l2 k2 hr hks hsub hkind e0 e1 e2 d0 d1 d2
  go_enter Try.func71, Try.ntmps71
  go_upto_region 1 with (fail)
  generalize w.alloc (.cells #[.pointer (some ⟨g, 0, none⟩)] 134) = Y at *
  have hg0 := blk_alloc hga (.cells #[.int .i64 x.kind, .string x.name, .slice A2 x.kids.length c2] 57)
  have hg1 := blk_new Y (.cells #[.int .i64 x.kind, .string x.name, .slice A2 x.kids.length c2] 57)
  have hbb := below_alloc hba (.cells #[.int .i64 x.kind, .string x.name, .slice A2 x.kids.length c2] 57)
  have q0 : Y.cell? ⟨w.heap.size, 0, none⟩ = some (.pointer (some ⟨g, 0, none⟩)) := (blk_cell hga 0).trans rfl
  have hla := blk_lt hga
  have e0 := E0.out
  have e1 := E1.out
  have e2 := E2.out
  have d1 := D1.out
  have hgY := Nat.lt_of_lt_of_le hgl hba.size
  clear hga hba hgl E0 E1 E2 D1
  go_upto_region 2 with (fail)
  clear e0 e1 e2 d1 q0
  generalize Y.alloc (.cells #[.int .i64 x.kind, .string x.name, .slice A2 x.kids.length c2] 57) = W at *
  obtain ⟨r0, r1, r2⟩ := cells3 hg1
  have q0 : W.cell? ⟨w.heap.size, 0, none⟩ = some (.pointer (some ⟨g, 0, none⟩)) := (blk_cell hg0 0).trans rfl
  have hl0 := blk_lt hg0
  have hl1 := blk_lt hg1
  have HG0 := Lib.hid hg0
  have HG1 := Lib.hid hg1
  have HB := Lib.hid hbb
  have HS := Lib.hid (H.out.below hbb)
  have HWW := Lib.hid (HW.out.trans (hbb.mono HW.out.size))
  have HF := Lib.hid (Fr.of_below (B := w0.heap.size) (Ms := []) (T := wrT) hbb)
  clear hg0 hg1 hbb
  rw [HP.out] at hl ⊢
  go_wp2_with fail
  refine (each_seq w0 rv _ g 124 (atK ns (shItem ns sub)) cf124 x.kids (fun k hk w ov out hw h hl => ?_) A2 c2 K2.out W ov out HWW.out HS.out hl).mono ?_
  · obtain ⟨h0, h1, h2⟩ := HKS.out k hk
    obtain ⟨y, hy⟩ : ∃ y, ns[k.toNat]? = some y := ⟨_, List.getElem?_eq_getElem h2⟩
    have e : k = ((k.toNat : Nat) : Int) := by omega
    have := item_out w0 rv _ c1 ns sub f HSUB.out k.toNat y w g ov out h1 hy HR.out hw h (by rwa [atK_eq hy] at hl)
    rw [← e] at this
    rw [atK_eq hy]
    exact this
  rintro e V ⟨rfl, ov1, h1, f1⟩
  have H1 := Lib.hid h1
  have F1 := Lib.hid (HF.out.trans f1)
  clear h1 f1
  go_wp2_with fail
  go_end0
  exact ⟨rfl, ov1, by rw [HP.out]; exact H1.out, F1.out⟩
set_option maxRecDepth 100000 in
set_option maxHeartbeats 2000000 in
theorem node_alts (n : Nat) (x : Node) (hx : ns[n]? = some x) (hks : ∀ k ∈ x.kids, 0 ≤ k ∧ k.toNat < f ∧ k.toNat < ns.length) (hr : Kd.C kNode w0 A1 ns.length ns) (hkind : x.kind = 2)
    (w : World) (g : Nat) (ov : Value) (out : List ByteArray) (hw : Below w0.heap.size w0 w) (h : WSt w0.heap.size rv (.slice A1 ns.length c1) w g ov out) (hl : out.length + (shNode ns sub x).length ≤ 1000000) :
    Calls Try.prog 71 #[.pointer (some ⟨g, 0, none⟩), .int .i64 n] w (PutPost w0.heap.size rv (.slice A1 ns.length c1) w g (out ++ shNode ns sub x)) := by
  have hlt : n < ns.length := (List.getElem?_eq_some_iff.1 hx).1
  obtain ⟨ad, x', A2, c2, had, hx', e0', e1', e2', l2, k2⟩ := at_Node hr n hlt
  obtain rfl : x = x' := by rw [hx] at hx'; exact Option.some.inj hx'
  have e0 := pw_cell_below hw e0'
  have e1 := pw_cell_below hw e1'
  have e2 := pw_cell_below hw e2'
  subst had
  obtain ⟨d0, d1, d2⟩ := cells3 h.cells
  have hm := Kd.C_max hr
  have hgl := blk_lt h.cells
  have b6 : (x.kind == 6) = false := by rw [hkind]; rfl
  have b7 : (x.kind == 7) = false := by rw [hkind]; rfl
  have b1 : (x.kind == 1) = false := by rw [hkind]; rfl
  have b2 : (x.kind == 2) = true := by rw [hkind]; rfl
  have HP : Hid (shNode ns sub x = inter (x.kids.map (atK ns (shAlt ns sub)))) := Lib.hid (by unfold shNode; rw [if_neg (by omega), if_neg (by omega), if_neg (by omega), if_pos hkind])
  have hcf1 := cf124
  have hcf2 := cf125
  have hcf3 := cf126
  have hmf : ∀ (fn : Fn) (first cap : Array Value) (w : World), (Instr.makeFunc fn first cap).run Try.prog w = .ok (.func fn first cap) w := fun _ _ _ _ => rfl
  have H := Lib.hid h
  have HW := Lib.hid hw
  have HR := Lib.hid hr
  have K2 := Lib.hid k2
  have HKS := Lib.hid hks
  have HSUB := Lib.hid hsub
  have hga := blk_new w (.cells #[.pointer (some ⟨g, 0, none⟩)] 134)
  have hba := below_alloc (Below.refl w.heap.size w) (.cells #[.pointer (some ⟨g, 0, none⟩)] 134)
  have E0 := Lib.hid (pw_cell_below hba e0)
  have E1 := Lib.hid (pw_cell_below hba e1)
  have E2 := Lib.hid (pw_cell_below hba e2)
  have D1 := Lib.hid (pw_cell_below hba d1)
  clear h hw hx hx' e0' e1' e2' l2 k2 hr hks hsub hkind e0 e1 e2 d0 d1 d2
  go_enter Try.func71, Try.ntmps71
  go_upto_region 1 with (fail)
  generalize w.alloc (.cells #[.pointer (some ⟨g, 0, none⟩)] 134) = Y at *
  have hg0 := blk_alloc hga (.cells #[.int .i64 x.kind, .string x.name, .slice A2 x.kids.length c2] 57)
  have hg1 := blk_new Y (.cells #[.int .i64 x.kind, .string x.name, .slice A2 x.kids.length c2] 57)
  have hbb := below_alloc hba (.cells #[.int .i64 x.kind, .string x.name, .slice A2 x.kids.length c2] 57)
  have q0 : Y.cell? ⟨w.heap.size, 0, none⟩ = some (.pointer (some ⟨g, 0, none⟩)) := (blk_cell hga 0).trans rfl
  have hla := blk_lt hga
  have e0 := E0.out
  have e1 := E1.out
  have e2 := E2.out
  have d1 := D1.out
  have hgY := Nat.lt_of_lt_of_le hgl hba.size
  clear hga hba hgl E0 E1 E2 D1
  go_upto_region 2 with (fail)
  clear e0 e1 e2 d1 q0
  generalize Y.alloc (.cells #[.int .i64 x.kind, .string x.name, .slice A2 x.kids.length c2] 57) = W at *
  obtain ⟨r0, r1, r2⟩ := cells3 hg1
  have q0 : W.cell? ⟨w.heap.size, 0, none⟩ = some (.pointer (some ⟨g, 0, none⟩)) := (blk_cell hg0 0).trans rfl
  have hl0 := blk_lt hg0
  have hl1 := blk_lt hg1
  have HG0 := Lib.hid hg0
  have HG1 := Lib.hid hg1
  have HB := Lib.hid hbb
  have HS := Lib.hid (H.out.below hbb)
  have HWW := Lib.hid (HW.out.trans (hbb.mono HW.out.size))
  have HF := Lib.hid (Fr.of_below (B := w0.heap.size) (Ms := []) (T := wrT) hbb)
  clear hg0 hg1 hbb
  rw [HP.out] at hl ⊢
  go_wp2_with fail
  have hb3 := below_alloc (Below.refl W.heap.size W) (.cells #[.func (.func 126) #[] #[.pointer (some ⟨w.heap.size, 0, none⟩)]] 1)
  refine (each_alt w0 rv _ g 125 (atK ns (shAlt ns sub)) cf125 x.kids (fun k hk w ov out hw h hl => ?_) A2 c2 K2.out w.heap.size W.heap.size _ ov out (blk_below HG0.out hb3) (blk_new W _) (HWW.out.trans (hb3.mono HWW.out.size)) (HS.out.below hb3) hl).mono ?_
  · obtain ⟨h0, h1, h2⟩ := HKS.out k hk
    obtain ⟨y, hy⟩ : ∃ y, ns[k.toNat]? = some y := ⟨_, List.getElem?_eq_getElem h2⟩
    have e : k = ((k.toNat : Nat) : Int) := by omega
    have := alt_out w0 rv _ c1 ns sub f HSUB.out k.toNat y w g ov out h1 hy HR.out hw h (by rwa [atK_eq hy] at hl)
    rw [← e] at this
    rw [atK_eq hy]
    exact this
  rintro e V ⟨rfl, ov1, h1, f1⟩
  have H1 := Lib.hid h1
  have F1 := Lib.hid (HF.out.trans ((Fr.of_below hb3).trans f1))
  clear h1 f1
  go_wp2_with fail
  go_end0
  exact ⟨rfl, ov1, by rw [HP.out]; exact H1.out, F1.out⟩
set_option maxRecDepth 100000 in
set_option maxHeartbeats 2000000 in
theorem node_reps (n : Nat) (x : Node) (hx : ns[n]? = some x) (hks : ∀ k ∈ x.kids, 0 ≤ k ∧ k.toNat < f ∧ k.toNat < ns.length) (hr : Kd.C kNode w0 A1 ns.length ns) (hkind : x.kind = 3 ∨ x.kind = 4 ∨ x.kind = 5) (hne : x.kids ≠ [])
    (w : World) (g : Nat) (ov : Value) (out : List ByteArray) (hw : Below w0.heap.size w0 w) (h : WSt w0.heap.size rv (.slice A1 ns.length c1) w g ov out) (hl : out.length + (shNode ns sub x).length ≤ 1000000) :
    Calls Try.prog 71 #[.pointer (some ⟨g, 0, none⟩), .int .i64 n] w (PutPost w0.heap.size rv (.slice A1 ns.length c1) w g (out ++ shNode ns sub x)) := by
  have hlt : n < ns.length := (List.getElem?_eq_some_iff.1 hx).1
  obtain ⟨ad, x', A2, c2, had, hx', e0', e1', e2', l2, k2⟩ := at_Node hr n hlt
  obtain rfl : x = x' := by rw [hx] at hx'; exact Option.some.inj hx'
  have e0 := pw_cell_below hw e0'
  have e1 := pw_cell_below hw e1'
  have e2 := pw_cell_below hw e2'
  subst had
  obtain ⟨d0, d1, d2⟩ := cells3 h.cells
  have hm := Kd.C_max hr
  have hgl := blk_lt h.cells
  have b6 : (x.kind == 6) = false := by rcases hkind with h | h | h <;> rw [h] <;> rfl
  have b7 : (x.kind == 7) = false := by rcases hkind with h | h | h <;> rw [h] <;> rfl
  have b1 : (x.kind == 1) = false := by rcases hkind with h | h | h <;> rw [h] <;> rfl
  have b2 : (x.kind == 2) = false := by rcases hkind with h | h | h <;> rw [h] <;> rfl
  have HP : Hid (shNode ns sub x = atK ns (shAtom ns sub) (x.kids.headD 0) ++ [mkOf x.kind]) := Lib.hid (by unfold shNode; rw [if_neg (by omega), if_neg (by omega), if_neg (by omega), if_neg (by omega)])
  have hcf1 := cf124
  have hcf2 := cf125
  have hcf3 := cf126
  have hmf : ∀ (fn : Fn) (first cap : Array Value) (w : World), (Instr.makeFunc fn first cap).run Try.prog w = .ok (.func fn first cap) w := fun _ _ _ _ => rfl
  have H := Lib.hid h
  have HW := Lib.hid hw
  have HR := Lib.hid hr
  have K2 := Lib.hid k2
  have HKS := Lib.hid hks
  have HSUB := Lib.hid hsub
  have hga := blk_new w (.cells #[.pointer (some ⟨g, 0, none⟩)] 134)
  have hba := below_alloc (Below.refl w.heap.size w) (.cells #[.pointer (some ⟨g, 0, none⟩)] 134)
  have E0 := Lib.hid (pw_cell_below hba e0)
  have E1 := Lib.hid (pw_cell_below hba e1)
  have E2 := Lib.hid (pw_cell_below hba e2)
  have D1 := Lib.hid (pw_cell_below hba d1)
  clear h hw hx hx' e0' e1' e2' l2 k2 hr hks hsub hkind e0 e1 e2 d0 d1 d2
  go_enter Try.func71, Try.ntmps71
  go_upto_region 1 with (fail)
  generalize w.alloc (.cells #[.pointer (some ⟨g, 0, none⟩)] 134) = Y at *
  have hg0 := blk_alloc hga (.cells #[.int .i64 x.kind, .string x.name, .slice A2 x.kids.length c2] 57)
  have hg1 := blk_new Y (.cells #[.int .i64 x.kind, .string x.name, .slice A2 x.kids.length c2] 57)
  have hbb := below_alloc hba (.cells #[.int .i64 x.kind, .string x.name, .slice A2 x.kids.length c2] 57)
  have q0 : Y.cell? ⟨w.heap.size, 0, none⟩ = some (.pointer (some ⟨g, 0, none⟩)) := (blk_cell hga 0).trans rfl
  have hla := blk_lt hga
  have e0 := E0.out
  have e1 := E1.out
  have e2 := E2.out
  have d1 := D1.out
  have hgY := Nat.lt_of_lt_of_le hgl hba.size
  clear hga hba hgl E0 E1 E2 D1
  go_upto_region 2 with (fail)
  clear e0 e1 e2 d1 q0
  generalize Y.alloc (.cells #[.int .i64 x.kind, .string x.name, .slice A2 x.kids.length c2] 57) = W at *
  obtain ⟨r0, r1, r2⟩ := cells3 hg1
  have q0 : W.cell? ⟨w.heap.size, 0, none⟩ = some (.pointer (some ⟨g, 0, none⟩)) := (blk_cell hg0 0).trans rfl
  have hl0 := blk_lt hg0
  have hl1 := blk_lt hg1
  have HG0 := Lib.hid hg0
  have HG1 := Lib.hid hg1
  have HB := Lib.hid hbb
  have HS := Lib.hid (H.out.below hbb)
  have HWW := Lib.hid (HW.out.trans (hbb.mono HW.out.size))
  have HF := Lib.hid (Fr.of_below (B := w0.heap.size) (Ms := []) (T := wrT) hbb)
  clear hg0 hg1 hbb
  rw [HP.out] at hl
  obtain ⟨k, ks, hkk⟩ : ∃ k ks, x.kids = k :: ks := List.exists_cons_of_ne_nil hne
  obtain ⟨a3, k', had3, hk', e4'⟩ := at_int K2.out 0 (by rw [hkk]; simp)
  obtain rfl : k = k' := by rw [hkk] at hk'; simpa using hk'
  obtain ⟨y0, y1, y2⟩ := HKS.out k (by rw [hkk]; simp)
  have hpos : 0 < x.kids.length := by rw [hkk]; simp
  have hhd : x.kids.headD 0 = k := by rw [hkk]; rfl
  rw [hhd] at hl
  subst had3
  obtain ⟨y_, hy⟩ : ∃ y, ns[k.toNat]? = some y := ⟨_, List.getElem?_eq_getElem y2⟩
  have ek : k = ((k.toNat : Nat) : Int) := by omega
  rw [atK_eq hy, List.length_append, List.length_singleton] at hl
  have HY := Lib.hid hy
  have E4 := Lib.hid e4'
  have EK := Lib.hid ek
  have HHD := Lib.hid hhd
  clear hkk hhd hk' e4' hy ek hne
  go_wp2_with fail
  refine (repeated_any x.kind W).mono ?_
  rintro e V ⟨rfl, hb1⟩
  have HSV := Lib.hid (HS.out.below hb1)
  have HWV := Lib.hid (HWW.out.trans (hb1.mono HWW.out.size))
  have HFV := Lib.hid (HF.out.trans (Fr.of_below hb1))
  have hg0 := blk_below HG0.out hb1
  have hg1 := blk_below HG1.out hb1
  have HG0V := Lib.hid hg0
  obtain ⟨s0, s1, s2⟩ := cells3 hg1
  have t0 : V.cell? ⟨w.heap.size, 0, none⟩ = some (.pointer (some ⟨g, 0, none⟩)) := (blk_cell hg0 0).trans rfl
  have e4 := pw_cell_below HWV.out E4.out
  clear hb1 q0 r0 r1 r2 hg0 hg1
  generalize mkOf x.kind = mk at *
  generalize isMk x.kind = imk at *
  go_upto_region 4 with (fail)
  have l0 := Later.cell t0
  have l1 := Later.cell s2
  have e4a : V.cell? a3 = some (.int .i64 k) := by have h := e4; simpa [Addr.add] using h
  have l2 := Later.cell e4a
  refine wp_region_later_tail 5 (by kernel_rfl) (by kernel_rfl) ?_
  simp only [List.take_succ_cons, List.take_zero, List.drop_succ_cons, List.drop_zero]
  repeat (go_big_quiet_step (fail))
  refine wpQuiet_nil ?_
  intro y
  have HSY := Lib.hid (HSV.out.below y.below)
  have HWY := Lib.hid (HWV.out.trans (y.below.mono HWV.out.size))
  have HFY := Lib.hid (HFV.out.trans (Fr.of_below y.below))
  have HGY := Lib.hid (blk_below HG0V.out y.below)
  have hap := atom_out w0 rv _ c1 ns sub f HSUB.out k.toNat y_ y.val g ov out y1 HY.out HR.out HWY.out HSY.out (by omega)
  rw [← EK.out] at hap
  have HAP := Lib.hid hap
  have HEQ := Lib.hid (show shNode ns sub x = shAtom ns sub k.toNat y_ ++ [mk] by rw [HP.out, HHD.out, atK_eq HY.out])
  clear l0 l1 l2 hap HP
  generalize shAtom ns sub k.toNat y_ = pc at *
  go_wp2_with fail
  refine HAP.out.mono ?_
  rintro e V2 ⟨rfl, ov1, h1, f1⟩
  have H1 := Lib.hid h1
  have F1 := Lib.hid (HFY.out.trans f1)
  have hg2 := f1.blk HGY.out (by decide) (by simp)
  have t0 : V2.cell? ⟨w.heap.size, 0, none⟩ = some (.pointer (some ⟨g, 0, none⟩)) := (blk_cell hg2 0).trans rfl
  have HW2 := Lib.hid (HWY.out.trans (f1.toBelow HWY.out.size))
  clear h1 f1 hg2
  go_wp2_with fail
  refine (put1_any w0.heap.size rv _ V2 g ov1 _ H1.out mk HW2.out.size (by rw [List.length_append]; omega)).mono ?_
  rintro e V3 ⟨rfl, ov2, h3, f3⟩
  have H3 := Lib.hid h3
  have F3 := Lib.hid (F1.out.trans f3)
  clear h3 f3
  go_wp2_with fail
  go_end0
  exact ⟨rfl, ov2, by rw [HEQ.out, ← List.append_assoc]; exact H3.out, F3.out⟩
end
end Go.Proofs.Ytoiejgmfgcdniaa
