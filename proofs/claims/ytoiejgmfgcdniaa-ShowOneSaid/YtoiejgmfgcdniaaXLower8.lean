import Derived.Test.YtoiejgmfgcdniaaXLower6
import Derived.Deep.RegionHeld3
set_option linter.unusedVariables false
set_option linter.unusedSimpArgs false
namespace Go.Proofs.Ytoiejgmfgcdniaa
open Go.RowKit Go.Proofs.YtoiejgmfgcdniaaW.PrintWords
open Go.Maps (Keyed)

/-! ### node -/
theorem sym_row (W : World) (base : Nat) (hb : base ≤ W.heap.size) (xs : List Sym) (inner : List Value) (hi : Reps (kSym.M W base (fun _ => False)) kSym.sz xs inner) (hl : xs.length ≤ 1000) :
    kSym.R 41 (W.alloc (.cells inner.toArray 41)) base (fun _ => True) (.slice (some ⟨W.heap.size, 0, none⟩) xs.length xs.length) xs := by
  refine ⟨fun _ _ => trivial, inner, ?_, ?_⟩
  · have h2 := World.ownsRow_lit (base := base) (e := 41) (size := kSym.sz) W inner.toArray xs.length hb (by unfold maxLen; omega) (by simpa using hi.1)
    simpa using h2
  · exact hi.imp_ (fun p c hp => Kd.M_mono kSym (fun k hk => hk.1.elim) (Kd.M_below (Kd.M_bound kSym hp) (below_alloc (Below.refl _ _) _)))
theorem sym_row1 (W : World) (base : Nat) (hb : base ≤ W.heap.size) (x : Sym) :
    kSym.R 41 (W.alloc (.cells #[.bool x.non, .int .i64 x.n] 41)) base (fun _ => True) (.slice (some ⟨W.heap.size, 0, none⟩) 1 1) [x] :=
  sym_row W base hb [x] [.bool x.non, .int .i64 x.n] ((Reps.none _ _).snoc (kSym_mkM _ _ _ x) rfl) (by simp)
theorem sym_row2 (W : World) (base : Nat) (hb : base ≤ W.heap.size) (x y : Sym) :
    kSym.R 41 (W.alloc (.cells #[.bool x.non, .int .i64 x.n, .bool y.non, .int .i64 y.n] 41)) base (fun _ => True) (.slice (some ⟨W.heap.size, 0, none⟩) 2 2) [x, y] :=
  sym_row W base hb [x, y] [.bool x.non, .int .i64 x.n, .bool y.non, .int .i64 y.n] (((Reps.none _ _).snoc (kSym_mkM _ _ _ x) rfl).snoc (kSym_mkM _ _ _ y) rfl) (by simp)
def nodeAt (ns : List Node) (k : Int) : Node := (ns[k.toNat]?).getD ⟨0, ⟨#[]⟩, []⟩
def sgOf (s : LowS) (ns : List Node) (k : Int) : Sym := symP s (nodeAt ns k) k.toNat
def altP (s : LowS) (ns : List Node) (left : Int) (k : Int) : Prod := if (nodeAt ns k).kind = 1 then ⟨left, (nodeAt ns k).kids.map (sgOf s ns)⟩ else ⟨left, [sgOf s ns k]⟩
def nodeP (s : LowS) (ns : List Node) (left : Int) (n : Int) (x : Node) : List Prod :=
  if x.kind = 1 then [⟨left, x.kids.map (sgOf s ns)⟩]
  else if x.kind = 2 then x.kids.map (altP s ns left)
  else if x.kind = 3 then [⟨left, [sgOf s ns (x.kids.headD 0), ⟨true, left⟩]⟩, ⟨left, []⟩]
  else if x.kind = 4 then [⟨left, [sgOf s ns (x.kids.headD 0), ⟨true, left⟩]⟩, ⟨left, [sgOf s ns (x.kids.headD 0)]⟩]
  else if x.kind = 5 then [⟨left, [sgOf s ns (x.kids.headD 0)]⟩, ⟨left, []⟩]
  else [⟨left, [sgOf s ns n]⟩]
def NodePost (B N : Nat) (rv tv : Value) (w : World) (m : LowM) (s : LowS) (ps : List Prod) (e : Ending) (w' : World) : Prop :=
  e = .returned (.tuple #[]) ∧ ∃ pv, LSt B N rv tv w' { m with pv := pv } { s with prods := s.prods ++ ps } ∧ Fr B [] [98, 39] w w'
structure TreeOk (w0 : World) (A1 : Option Addr) (ns : List Node) : Prop where
  row : Kd.C kNode w0 A1 ns.length ns
  len : ns.length ≤ 100000
  ok : ∀ x, x ∈ ns → x.name.size ≤ 140737488351232 ∧ (∀ k, k ∈ x.kids → 0 ≤ k ∧ k < ns.length) ∧ x.kids.length ≤ 100000
theorem symk {N : Nat} {rv : Value} {w0 W : World} {m : LowM} {s : LowS} {ns : List Node} {A1 : Option Addr} {c1 : Nat} (ht : TreeOk w0 A1 ns) (hW : Below w0.heap.size w0 W) (h : LSt w0.heap.size N rv (.slice A1 ns.length c1) W m s) (k : Int) (h0 : 0 ≤ k) (h1 : k < ns.length) :
    Calls Try.prog 98 #[.pointer (some ⟨m.g, 0, none⟩), .int .i64 k] W (SymPost (sgOf s ns k) W) := by
  obtain ⟨n, rfl⟩ : ∃ n : Nat, k = n := ⟨k.toNat, by omega⟩
  have hn : ns[n]? = some ns[n] := List.getElem?_eq_getElem (by omega)
  have := symbol_any w0.heap.size N rv W m s ns A1 c1 n ns[n] h (Kd.C_below ht.row hW) hn (ht.ok _ (List.getElem_mem _)).1
  unfold sgOf nodeAt
  rw [Int.toNat_natCast, hn]
  exact this
set_option maxRecDepth 100000 in
set_option maxHeartbeats 2000000 in
theorem node_rest (w0 : World) (N : Nat) (rv : Value) (A1 : Option Addr) (c1 : Nat) (ns : List Node) (w : World) (m : LowM) (s : LowS) (left : Int) (n : Nat) (x : Node) (hx : ns[n]? = some x)
    (ht : TreeOk w0 A1 ns) (hw : Below w0.heap.size w0 w) (h : LSt w0.heap.size N rv (.slice A1 ns.length c1) w m s) (hp : s.prods.length + x.kids.length + 2 ≤ 1000000)
    (hk : x.kind ≠ 1 ∧ x.kind ≠ 2 ∧ x.kind ≠ 3 ∧ x.kind ≠ 4 ∧ x.kind ≠ 5) :
    Calls Try.prog 48 #[.pointer (some ⟨m.g, 0, none⟩), .int .i64 left, .int .i64 n] w (NodePost w0.heap.size N rv (.slice A1 ns.length c1) w m s (nodeP s ns left n x)) := by
  have hlt : n < ns.length := (List.getElem?_eq_some_iff.1 hx).1
  obtain ⟨ad, x', A2, c2, had, hx', e0', e1', e2', l2, k2⟩ := at_Node ht.row n hlt
  obtain rfl : x = x' := by rw [hx] at hx'; exact Option.some.inj hx'
  have e0 := pw_cell_below hw e0'
  have e1 := pw_cell_below hw e1'
  have e2 := pw_cell_below hw e2'
  have hmx := Kd.C_max ht.row
  have hkok := (ht.ok x (List.mem_of_getElem? hx)).2.1
  have hklen := (ht.ok x (List.mem_of_getElem? hx)).2.2
  subst had
  have HKOK := Lib.hid hkok
  obtain ⟨d0, d1, _, d3, d4, d5, _⟩ := h.cs
  have hgl := blk_lt h.cells
  have H := Lib.hid h
  have HT := Lib.hid ht
  have HW := Lib.hid hw
  have K2 := Lib.hid (Kd.C_below k2 hw)
  have hsw := hw.size
  have hnp : Hid (nodeP s ns left n x = [⟨left, [sgOf s ns n]⟩]) := Lib.hid (by unfold nodeP; rw [if_neg hk.1, if_neg hk.2.1, if_neg hk.2.2.1, if_neg hk.2.2.2.1, if_neg hk.2.2.2.2])
  have b1 : (x.kind == 1) = false := beq_eq_false_iff_ne.2 hk.1
  have b2 : (x.kind == 2) = false := beq_eq_false_iff_ne.2 hk.2.1
  have b3 : (x.kind == 3) = false := beq_eq_false_iff_ne.2 hk.2.2.1
  have b4 : (x.kind == 4) = false := beq_eq_false_iff_ne.2 hk.2.2.2.1
  have b5 : (x.kind == 5) = false := beq_eq_false_iff_ne.2 hk.2.2.2.2
  have hcf : ∀ args W, (callFunc 98 args).run Try.prog W = .ok (.enter 98 args) W := by intro args W; simp [callFunc, go_sem, Try.func98]; rfl
  clear ht h hw hx hx' e0' e1' e2' l2 k2 hk hkok
  obtain ⟨g, bt, br, bo, nv, pv⟩ := m
  simp only at d0 d1 d3 d4 d5 hgl
  go_enter Try.func48, Try.ntmps48
  go_wp2_with fail
  refine (symk (m := ⟨g, bt, br, bo, nv, pv⟩) HT.out (blwB (Nat.le_refl _) HW.out (bel2n _ _)) (H.out.below (bel2n _ _)) n (by omega) (by omega)).mono ?_
  rintro e w1 ⟨rfl, hb1⟩
  have hb2 := blw (bel2n _ _) hb1
  have HB2 := Lib.hid hb2
  generalize sgOf s ns n = sg at *
  go_wp2_with fail
  refine (lay_any w0.heap.size N rv (.slice (some ad) ns.length c1) _ ⟨g, bt, br, bo, nv, pv⟩ s left _ [sg] ((H.out.below HB2.out).below (below_alloc (Below.refl _ _) _)) (sym_row1 _ _ (by have := HB2.out.size; omega) sg) (by have := HB2.out.size; rw [size_alloc]; omega) (by omega)).mono ?_
  rintro e w2 ⟨rfl, pv2, hL2, hF2⟩
  have HL2 := Lib.hid hL2
  have HF2 := Lib.hid ((Fr.of_below (blw HB2.out (below_alloc (Below.refl _ _) _))).trans hF2)
  clear hL2 hF2
  go_wp2_with fail
  go_end0
  exact ⟨rfl, pv2, by rw [hnp.out]; exact HL2.out, HF2.out⟩
set_option maxRecDepth 100000 in
set_option maxHeartbeats 2000000 in
theorem node_seq (w0 : World) (N : Nat) (rv : Value) (A1 : Option Addr) (c1 : Nat) (ns : List Node) (w : World) (m : LowM) (s : LowS) (left : Int) (n : Nat) (x : Node) (hx : ns[n]? = some x)
    (ht : TreeOk w0 A1 ns) (hw : Below w0.heap.size w0 w) (h : LSt w0.heap.size N rv (.slice A1 ns.length c1) w m s) (hp : s.prods.length + x.kids.length + 2 ≤ 1000000)
    (hk : x.kind = 1) :
    Calls Try.prog 48 #[.pointer (some ⟨m.g, 0, none⟩), .int .i64 left, .int .i64 n] w (NodePost w0.heap.size N rv (.slice A1 ns.length c1) w m s (nodeP s ns left n x)) := by
  have hlt : n < ns.length := (List.getElem?_eq_some_iff.1 hx).1
  obtain ⟨ad, x', A2, c2, had, hx', e0', e1', e2', l2, k2⟩ := at_Node ht.row n hlt
  obtain rfl : x = x' := by rw [hx] at hx'; exact Option.some.inj hx'
  have e0 := pw_cell_below hw e0'
  have e1 := pw_cell_below hw e1'
  have e2 := pw_cell_below hw e2'
  have hmx := Kd.C_max ht.row
  have hkok := (ht.ok x (List.mem_of_getElem? hx)).2.1
  have hklen := (ht.ok x (List.mem_of_getElem? hx)).2.2
  subst had
  have HKOK := Lib.hid hkok
  obtain ⟨d0, d1, _, d3, d4, d5, _⟩ := h.cs
  have hgl := blk_lt h.cells
  have H := Lib.hid h
  have HT := Lib.hid ht
  have HW := Lib.hid hw
  have K2 := Lib.hid (Kd.C_below k2 hw)
  have hsw := hw.size
  have hnp : Hid (nodeP s ns left n x = [⟨left, x.kids.map (sgOf s ns)⟩]) := Lib.hid (by unfold nodeP; rw [hk]; rfl)
  have b1 : (x.kind == 1) = true := by rw [hk]; rfl
  have b2 : (x.kind == 2) = false := by rw [hk]; rfl
  have b3 : (x.kind == 3) = false := by rw [hk]; rfl
  have b4 : (x.kind == 4) = false := by rw [hk]; rfl
  have b5 : (x.kind == 5) = false := by rw [hk]; rfl
  have hcf : ∀ args W, (callFunc 98 args).run Try.prog W = .ok (.enter 98 args) W := by intro args W; simp [callFunc, go_sem, Try.func98]; rfl
  clear ht h hw hx hx' e0' e1' e2' l2 k2 hk hkok
  obtain ⟨g, bt, br, bo, nv, pv⟩ := m
  simp only at d0 d1 d3 d4 d5 hgl
  go_enter Try.func48, Try.ntmps48
  go_wp2_with fail
  refine (all_any 98 (.pointer (some ⟨g, 0, none⟩)) (sgOf s ns) A2 x.kids.length c2 x.kids _ (Kd.C_below K2.out (bel2n _ _)) (by omega) hcf (fun k W hk hb => symk (m := ⟨g, bt, br, bo, nv, pv⟩) HT.out (blwB (Nat.le_refl _) HW.out (blw (bel2n _ _) hb)) (H.out.below (blw (bel2n _ _) hb)) k (HKOK.out k hk).1 (HKOK.out k hk).2)).mono ?_
  rintro e w1 ⟨v, rfl, hv, hb1⟩
  have HB2 := Lib.hid (blw (bel2n _ _) hb1)
  have HV := Lib.hid (Kd.R_lower hv (show w0.heap.size ≤ _ by rw [size_alloc, size_alloc]; omega))
  clear hv hb1
  go_wp2_with fail
  refine (lay_any w0.heap.size N rv (.slice (some ad) ns.length c1) _ ⟨g, bt, br, bo, nv, pv⟩ s left _ (x.kids.map (sgOf s ns)) (H.out.below HB2.out) HV.out (by have := HB2.out.size; omega) (by omega)).mono ?_
  rintro e w2 ⟨rfl, pv2, hL2, hF2⟩
  have HL2 := Lib.hid hL2
  have HF2 := Lib.hid ((Fr.of_below HB2.out).trans hF2)
  clear hL2 hF2
  go_wp2_with fail
  go_end0
  exact ⟨rfl, pv2, by rw [hnp.out]; exact HL2.out, HF2.out⟩
end Go.Proofs.Ytoiejgmfgcdniaa
namespace Go.Proofs.Ytoiejgmfgcdniaa
open Go.RowKit Go.Proofs.YtoiejgmfgcdniaaW.PrintWords
open Go.Maps (Keyed)

/-! ### node, further -/
theorem add0 {w : World} {a : Addr} {v : Value} (h : w.cell? (a.add 0) = some v) : w.cell? a = some v := h
set_option maxRecDepth 100000 in
set_option maxHeartbeats 2000000 in
theorem node_opt (w0 : World) (N : Nat) (rv : Value) (A1 : Option Addr) (c1 : Nat) (ns : List Node) (w : World) (m : LowM) (s : LowS) (left : Int) (n : Nat) (x : Node) (hx : ns[n]? = some x)
    (ht : TreeOk w0 A1 ns) (hw : Below w0.heap.size w0 w) (h : LSt w0.heap.size N rv (.slice A1 ns.length c1) w m s) (hp : s.prods.length + x.kids.length + 2 ≤ 1000000)
    (hk : x.kind = 5) (hne : x.kids ≠ []) :
    Calls Try.prog 48 #[.pointer (some ⟨m.g, 0, none⟩), .int .i64 left, .int .i64 n] w (NodePost w0.heap.size N rv (.slice A1 ns.length c1) w m s (nodeP s ns left n x)) := by
  have hlt : n < ns.length := (List.getElem?_eq_some_iff.1 hx).1
  obtain ⟨ad, x', A2, c2, had, hx', e0', e1', e2', l2, k2⟩ := at_Node ht.row n hlt
  obtain rfl : x = x' := by rw [hx] at hx'; exact Option.some.inj hx'
  have e0 := pw_cell_below hw e0'
  have e1 := pw_cell_below hw e1'
  have e2 := pw_cell_below hw e2'
  have hmx := Kd.C_max ht.row
  have hkok := (ht.ok x (List.mem_of_getElem? hx)).2.1
  have hklen := (ht.ok x (List.mem_of_getElem? hx)).2.2
  subst had
  have HKOK := Lib.hid hkok
  obtain ⟨d0, d1, _, d3, d4, d5, _⟩ := h.cs
  have hgl := blk_lt h.cells
  have H := Lib.hid h
  have HT := Lib.hid ht
  have HW := Lib.hid hw
  have K2 := Lib.hid (Kd.C_below k2 hw)
  have hsw := hw.size
  have hnp : Hid (nodeP s ns left n x = [⟨left, [sgOf s ns (x.kids.headD 0)]⟩, ⟨left, []⟩]) := Lib.hid (by unfold nodeP; rw [hk]; rfl)
  have b1 : (x.kind == 1) = false := by rw [hk]; rfl
  have b2 : (x.kind == 2) = false := by rw [hk]; rfl
  have b3 : (x.kind == 3) = false := by rw [hk]; rfl
  have b4 : (x.kind == 4) = false := by rw [hk]; rfl
  have b5 : (x.kind == 5) = true := by rw [hk]; rfl
  have hcf : ∀ args W, (callFunc 98 args).run Try.prog W = .ok (.enter 98 args) W := by intro args W; simp [callFunc, go_sem, Try.func98]; rfl
  obtain ⟨k0, rest, hk0⟩ : ∃ k0 rest, x.kids = k0 :: rest := by cases h0 : x.kids with | nil => exact absurd h0 hne | cons a b => exact ⟨a, b, rfl⟩
  have hkk := hkok k0 (by rw [hk0]; simp)
  have hkh : Hid (x.kids.headD 0 = k0) := Lib.hid (by rw [hk0]; rfl)
  have hkpos : 0 < x.kids.length := by rw [hk0]; simp
  obtain ⟨a3, k0', had3, hk0', f0⟩ := at_int (Kd.C_below k2 hw) 0 hkpos
  obtain rfl : k0 = k0' := by rw [hk0] at hk0'; simpa using hk0'
  subst had3
  have f0 : w.cell? (a3.add 0) = some (.int .i64 k0) := by simpa using f0
  have f0b := add0 f0
  clear hk0 hk0' hne
  clear ht h hw hx hx' e0' e1' e2' l2 k2 hk hkok
  obtain ⟨g, bt, br, bo, nv, pv⟩ := m
  simp only at d0 d1 d3 d4 d5 hgl
  go_enter Try.func48, Try.ntmps48
  have f8 := fun o1 o2 => pw_cell_below (bel2n (w := w) o1 o2) f0b
  go_wp2_with fail
  refine (symk (m := ⟨g, bt, br, bo, nv, pv⟩) HT.out (blwB (Nat.le_refl _) HW.out (bel2n _ _)) (H.out.below (bel2n _ _)) k0 hkk.1 hkk.2).mono ?_
  rintro e w1 ⟨rfl, hb1⟩
  have hb2 := blw (bel2n _ _) hb1
  have HB2 := Lib.hid hb2
  rw [hkh.out] at hnp
  generalize sgOf s ns k0 = sg at *
  go_wp2_with fail
  refine (lay_any w0.heap.size N rv (.slice (some ad) ns.length c1) _ ⟨g, bt, br, bo, nv, pv⟩ s left _ [sg] ((H.out.below HB2.out).below (below_alloc (Below.refl _ _) _)) (sym_row1 _ _ (by have := HB2.out.size; omega) sg) (by have := HB2.out.size; rw [size_alloc]; omega) (by omega)).mono ?_
  rintro e w2 ⟨rfl, pv2, hL2, hF2⟩
  have HL2 := Lib.hid hL2
  have HF2 := Lib.hid ((Fr.of_below (blw HB2.out (below_alloc (Below.refl _ _) _))).trans hF2)
  clear hL2 hF2
  go_wp2_with fail
  refine (lay_any w0.heap.size N rv (.slice (some ad) ns.length c1) w2 ⟨g, bt, br, bo, nv, pv2⟩ { s with prods := s.prods ++ [⟨left, [sg]⟩] } left (.slice none 0 0) [] HL2.out (Kd.R_nil _ _ _ _ _) (by have := HF2.out.size; omega) (by rw [List.length_append]; simp; omega)).mono ?_
  rintro e w3 ⟨rfl, pv3, hL3, hF3⟩
  have HL3 := Lib.hid hL3
  have HF3 := Lib.hid (HF2.out.trans hF3)
  clear hL3 hF3
  go_wp2_with fail
  go_end0
  exact ⟨rfl, pv3, by rw [hnp.out]; have := HL3.out; simp only [List.append_assoc, List.cons_append, List.nil_append] at this; exact this, HF3.out⟩
set_option maxRecDepth 100000 in
set_option maxHeartbeats 2000000 in
theorem node_star (w0 : World) (N : Nat) (rv : Value) (A1 : Option Addr) (c1 : Nat) (ns : List Node) (w : World) (m : LowM) (s : LowS) (left : Int) (n : Nat) (x : Node) (hx : ns[n]? = some x)
    (ht : TreeOk w0 A1 ns) (hw : Below w0.heap.size w0 w) (h : LSt w0.heap.size N rv (.slice A1 ns.length c1) w m s) (hp : s.prods.length + x.kids.length + 2 ≤ 1000000)
    (hk : x.kind = 3) (hne : x.kids ≠ []) :
    Calls Try.prog 48 #[.pointer (some ⟨m.g, 0, none⟩), .int .i64 left, .int .i64 n] w (NodePost w0.heap.size N rv (.slice A1 ns.length c1) w m s (nodeP s ns left n x)) := by
  have hlt : n < ns.length := (List.getElem?_eq_some_iff.1 hx).1
  obtain ⟨ad, x', A2, c2, had, hx', e0', e1', e2', l2, k2⟩ := at_Node ht.row n hlt
  obtain rfl : x = x' := by rw [hx] at hx'; exact Option.some.inj hx'
  have e0 := pw_cell_below hw e0'
  have e1 := pw_cell_below hw e1'
  have e2 := pw_cell_below hw e2'
  have hmx := Kd.C_max ht.row
  have hkok := (ht.ok x (List.mem_of_getElem? hx)).2.1
  have hklen := (ht.ok x (List.mem_of_getElem? hx)).2.2
  subst had
  have HKOK := Lib.hid hkok
  obtain ⟨d0, d1, _, d3, d4, d5, _⟩ := h.cs
  have hgl := blk_lt h.cells
  have H := Lib.hid h
  have HT := Lib.hid ht
  have HW := Lib.hid hw
  have K2 := Lib.hid (Kd.C_below k2 hw)
  have hsw := hw.size
  have hnp : Hid (nodeP s ns left n x = [⟨left, [sgOf s ns (x.kids.headD 0), ⟨true, left⟩]⟩, ⟨left, []⟩]) := Lib.hid (by unfold nodeP; rw [hk]; rfl)
  have b1 : (x.kind == 1) = false := by rw [hk]; rfl
  have b2 : (x.kind == 2) = false := by rw [hk]; rfl
  have b3 : (x.kind == 3) = true := by rw [hk]; rfl
  have b4 : (x.kind == 4) = false := by rw [hk]; rfl
  have b5 : (x.kind == 5) = false := by rw [hk]; rfl
  have hcf : ∀ args W, (callFunc 98 args).run Try.prog W = .ok (.enter 98 args) W := by intro args W; simp [callFunc, go_sem, Try.func98]; rfl
  obtain ⟨k0, rest, hk0⟩ : ∃ k0 rest, x.kids = k0 :: rest := by cases h0 : x.kids with | nil => exact absurd h0 hne | cons a b => exact ⟨a, b, rfl⟩
  have hkk := hkok k0 (by rw [hk0]; simp)
  have hkh : Hid (x.kids.headD 0 = k0) := Lib.hid (by rw [hk0]; rfl)
  have hkpos : 0 < x.kids.length := by rw [hk0]; simp
  obtain ⟨a3, k0', had3, hk0', f0⟩ := at_int (Kd.C_below k2 hw) 0 hkpos
  obtain rfl : k0 = k0' := by rw [hk0] at hk0'; simpa using hk0'
  subst had3
  have f0 : w.cell? (a3.add 0) = some (.int .i64 k0) := by simpa using f0
  have f00 : w0.cell? (a3.add 0) = some (.int .i64 k0) := by
    obtain ⟨a4, k0', had4, hk0', f9⟩ := at_int k2 0 hkpos
    obtain rfl : a3 = a4 := Option.some.inj had4
    obtain rfl : k0 = k0' := by rw [hk0] at hk0'; simpa using hk0'
    simpa using f9
  have HF0 := Lib.hid f00
  have HF0b := Lib.hid (add0 f00)
  clear f00
  have f0b := add0 f0
  clear hk0 hk0' hne
  clear ht h hw hx hx' e0' e1' e2' l2 k2 hk hkok
  obtain ⟨g, bt, br, bo, nv, pv⟩ := m
  simp only at d0 d1 d3 d4 d5 hgl
  go_enter Try.func48, Try.ntmps48
  go_upto_region 16 with (fail)
  have hb2 := bel2n (w := w) (.cells #[.int .i64 x.kind, .string x.name, .slice (some a3) x.kids.length c2] 57) (.cells #[.bool true, .int .i64 left] 41)
  have hg1 := blk_alloc (blk_new w (.cells #[.int .i64 x.kind, .string x.name, .slice (some a3) x.kids.length c2] 57)) (.cells #[.bool true, .int .i64 left] 41)
  have hg2 := blk_new (w.alloc (.cells #[.int .i64 x.kind, .string x.name, .slice (some a3) x.kids.length c2] 57)) (.cells #[.bool true, .int .i64 left] 41)
  rw [size_alloc] at hg2
  generalize (w.alloc (.cells #[.int .i64 x.kind, .string x.name, .slice (some a3) x.kids.length c2] 57)).alloc (.cells #[.bool true, .int .i64 left] 41) = W at *
  have HB2 := Lib.hid hb2
  have HG1 := Lib.hid hg1
  have HG2 := Lib.hid hg2
  have HL1 := Lib.hid (H.out.below hb2)
  have l0 := (cells3 hg1).2.2
  have l1 := (cells2 hg2).1
  have l2 := (cells2 hg2).2
  have l3 := pw_cell_below hb2 f0
  have l4 := pw_cell_below hb2 f0b
  rw [hkh.out] at hnp
  obtain ⟨sg, hsg⟩ : ∃ sg, sgOf s ns k0 = sg := ⟨_, rfl⟩
  have HC := Lib.hid (fun W' (hb : Below W.heap.size W W') => symk (m := ⟨g, bt, br, bo, nv, pv⟩) HT.out (blwB (Nat.le_refl _) HW.out (blw hb2 hb)) (HL1.out.below hb) k0 hkk.1 hkk.2)
  rw [hsg] at hnp HC
  have HSG := Lib.hid hsg
  clear hb2 hg1 hg2 e0 e1 e2 hsg f0 f0b
  go_region_held3 (fun w' => w'.cell? ⟨w.heap.size, 2, none⟩ = some (.slice (some a3) x.kids.length c2) ∧ w'.cell? ⟨w.heap.size + 1, 0, none⟩ = some (.bool true) ∧ w'.cell? ⟨w.heap.size + 1, 1, none⟩ = some (.int .i64 left) ∧ w'.cell? a3 = some (.int .i64 k0)) (go_keep)
    (first | (go_at_call 98; refine (HC.out _ (below_drew (Below.refl _ _))).mono ?_; rintro e w1 ⟨rfl, hb1⟩; have m0 := pw_cell_below (below_drew (Below.refl _ _)) l0; have m1 := pw_cell_below (below_drew (Below.refl _ _)) l1; have m2 := pw_cell_below (below_drew (Below.refl _ _)) l2; have m4 := pw_cell_below (below_drew (Below.refl _ _)) l4; have n0 := pw_cell_below hb1 m0; have n1 := pw_cell_below hb1 m1; have n2 := pw_cell_below hb1 m2; have n4 := pw_cell_below hb1 m4) | (go_at_call 99; have hb3 := below_drew (Below.refl W.heap.size W); have HBY := Lib.hid (blw HB2.out (blw hb3 hb1)); have hGY1 := blk_below (blk_below HG1.out hb3) hb1; have hGY2 := blk_below (blk_below HG2.out hb3) hb1; refine (lay_any w0.heap.size N rv (.slice (some ad) ns.length c1) _ ⟨g, bt, br, bo, nv, pv⟩ s left _ [sg, ⟨true, left⟩] ((H.out.below HBY.out).below (below_alloc (Below.refl _ _) _)) (sym_row2 _ _ ?_ sg ⟨true, left⟩) ?_ ?_).mono ?_; (have := HBY.out.size; omega); (have := HBY.out.size; rw [size_alloc]; omega); omega; rintro e w2 ⟨rfl, pv2, hL2, hF2⟩; have HL2 := Lib.hid hL2; have HF2 := Lib.hid ((Fr.of_below (blw HBY.out (below_alloc (Below.refl _ _) _))).trans hF2); have hG3 := hF2.blk (blk_below hGY1 (below_alloc (Below.refl _ _) _)) (by decide) (by simp); have hG4 := hF2.blk (blk_below hGY2 (below_alloc (Below.refl _ _) _)) (by decide) (by simp); have p0 := (cells3 hG3).2.2; have p1 := (cells2 hG4).1; have p2 := (cells2 hG4).2; have p4 := pw_cell_below (HW.out.trans (HF2.out.toBelow HW.out.size)) HF0b.out; have HG3 := Lib.hid hG3; clear hL2 hF2 hG3 hGY1 hGY2 hb3))
  go_wp2_with fail
  refine (lay_any w0.heap.size N rv (.slice (some ad) ns.length c1) w2 ⟨g, bt, br, bo, nv, pv2⟩ { s with prods := s.prods ++ [⟨left, [sg, ⟨true, left⟩]⟩] } left (.slice none 0 0) [] HL2.out (Kd.R_nil _ _ _ _ _) (by have := HF2.out.size; omega) (by rw [List.length_append]; simp; omega)).mono ?_
  rintro e w3 ⟨rfl, pv3, hL3, hF3⟩
  have HL3 := Lib.hid hL3
  have HF3 := Lib.hid (HF2.out.trans hF3)
  clear hL3 hF3
  go_wp2_with fail
  go_end0
  exact ⟨rfl, pv3, by rw [hnp.out]; have := HL3.out; simp only [List.append_assoc, List.cons_append, List.nil_append] at this; exact this, HF3.out⟩
set_option maxRecDepth 100000 in
set_option maxHeartbeats 2000000 in
theorem node_plus (w0 : World) (N : Nat) (rv : Value) (A1 : Option Addr) (c1 : Nat) (ns : List Node) (w : World) (m : LowM) (s : LowS) (left : Int) (n : Nat) (x : Node) (hx : ns[n]? = some x)
    (ht : TreeOk w0 A1 ns) (hw : Below w0.heap.size w0 w) (h : LSt w0.heap.size N rv (.slice A1 ns.length c1) w m s) (hp : s.prods.length + x.kids.length + 2 ≤ 1000000)
    (hk : x.kind = 4) (hne : x.kids ≠ []) :
    Calls Try.prog 48 #[.pointer (some ⟨m.g, 0, none⟩), .int .i64 left, .int .i64 n] w (NodePost w0.heap.size N rv (.slice A1 ns.length c1) w m s (nodeP s ns left n x)) := by
  have hlt : n < ns.length := (List.getElem?_eq_some_iff.1 hx).1
  obtain ⟨ad, x', A2, c2, had, hx', e0', e1', e2', l2, k2⟩ := at_Node ht.row n hlt
  obtain rfl : x = x' := by rw [hx] at hx'; exact Option.some.inj hx'
  have e0 := pw_cell_below hw e0'
  have e1 := pw_cell_below hw e1'
  have e2 := pw_cell_below hw e2'
  have hmx := Kd.C_max ht.row
  have hkok := (ht.ok x (List.mem_of_getElem? hx)).2.1
  have hklen := (ht.ok x (List.mem_of_getElem? hx)).2.2
  subst had
  have HKOK := Lib.hid hkok
  obtain ⟨d0, d1, _, d3, d4, d5, _⟩ := h.cs
  have hgl := blk_lt h.cells
  have H := Lib.hid h
  have HT := Lib.hid ht
  have HW := Lib.hid hw
  have K2 := Lib.hid (Kd.C_below k2 hw)
  have hsw := hw.size
  have hnp : Hid (nodeP s ns left n x = [⟨left, [sgOf s ns (x.kids.headD 0), ⟨true, left⟩]⟩, ⟨left, [sgOf s ns (x.kids.headD 0)]⟩]) := Lib.hid (by unfold nodeP; rw [hk]; rfl)
  have b1 : (x.kind == 1) = false := by rw [hk]; rfl
  have b2 : (x.kind == 2) = false := by rw [hk]; rfl
  have b3 : (x.kind == 3) = false := by rw [hk]; rfl
  have b4 : (x.kind == 4) = true := by rw [hk]; rfl
  have b5 : (x.kind == 5) = false := by rw [hk]; rfl
  have hcf : ∀ args W, (callFunc 98 args).run Try.prog W = .ok (.enter 98 args) W := by intro args W; simp [callFunc, go_sem, Try.func98]; rfl
  obtain ⟨k0, rest, hk0⟩ : ∃ k0 rest, x.kids = k0 :: rest := by cases h0 : x.kids with | nil => exact absurd h0 hne | cons a b => exact ⟨a, b, rfl⟩
  have hkk := hkok k0 (by rw [hk0]; simp)
  have hkh : Hid (x.kids.headD 0 = k0) := Lib.hid (by rw [hk0]; rfl)
  have hkpos : 0 < x.kids.length := by rw [hk0]; simp
  obtain ⟨a3, k0', had3, hk0', f0⟩ := at_int (Kd.C_below k2 hw) 0 hkpos
  obtain rfl : k0 = k0' := by rw [hk0] at hk0'; simpa using hk0'
  subst had3
  have f0 : w.cell? (a3.add 0) = some (.int .i64 k0) := by simpa using f0
  have f00 : w0.cell? (a3.add 0) = some (.int .i64 k0) := by
    obtain ⟨a4, k0', had4, hk0', f9⟩ := at_int k2 0 hkpos
    obtain rfl : a3 = a4 := Option.some.inj had4
    obtain rfl : k0 = k0' := by rw [hk0] at hk0'; simpa using hk0'
    simpa using f9
  have HF0 := Lib.hid f00
  have HF0b := Lib.hid (add0 f00)
  clear f00
  have f0b := add0 f0
  clear hk0 hk0' hne
  clear ht h hw hx hx' e0' e1' e2' l2 k2 hk hkok
  obtain ⟨g, bt, br, bo, nv, pv⟩ := m
  simp only at d0 d1 d3 d4 d5 hgl
  go_enter Try.func48, Try.ntmps48
  go_upto_region 19 with (fail)
  have hb2 := bel2n (w := w) (.cells #[.int .i64 x.kind, .string x.name, .slice (some a3) x.kids.length c2] 57) (.cells #[.bool true, .int .i64 left] 41)
  have hg1 := blk_alloc (blk_new w (.cells #[.int .i64 x.kind, .string x.name, .slice (some a3) x.kids.length c2] 57)) (.cells #[.bool true, .int .i64 left] 41)
  have hg2 := blk_new (w.alloc (.cells #[.int .i64 x.kind, .string x.name, .slice (some a3) x.kids.length c2] 57)) (.cells #[.bool true, .int .i64 left] 41)
  rw [size_alloc] at hg2
  generalize (w.alloc (.cells #[.int .i64 x.kind, .string x.name, .slice (some a3) x.kids.length c2] 57)).alloc (.cells #[.bool true, .int .i64 left] 41) = W at *
  have HB2 := Lib.hid hb2
  have HG1 := Lib.hid hg1
  have HG2 := Lib.hid hg2
  have HL1 := Lib.hid (H.out.below hb2)
  have l0 := (cells3 hg1).2.2
  have l1 := (cells2 hg2).1
  have l2 := (cells2 hg2).2
  have l3 := pw_cell_below hb2 f0
  have l4 := pw_cell_below hb2 f0b
  rw [hkh.out] at hnp
  obtain ⟨sg, hsg⟩ : ∃ sg, sgOf s ns k0 = sg := ⟨_, rfl⟩
  have HC := Lib.hid (fun W' (hb : Below W.heap.size W W') => symk (m := ⟨g, bt, br, bo, nv, pv⟩) HT.out (blwB (Nat.le_refl _) HW.out (blw hb2 hb)) (HL1.out.below hb) k0 hkk.1 hkk.2)
  rw [hsg] at hnp HC
  have HSG := Lib.hid hsg
  clear hb2 hg1 hg2 e0 e1 e2 hsg f0 f0b
  go_region_held3 (fun w' => w'.cell? ⟨w.heap.size, 2, none⟩ = some (.slice (some a3) x.kids.length c2) ∧ w'.cell? ⟨w.heap.size + 1, 0, none⟩ = some (.bool true) ∧ w'.cell? ⟨w.heap.size + 1, 1, none⟩ = some (.int .i64 left) ∧ w'.cell? a3 = some (.int .i64 k0)) (go_keep)
    (first | (go_at_call 98; refine (HC.out _ (below_drew (Below.refl _ _))).mono ?_; rintro e w1 ⟨rfl, hb1⟩; have m0 := pw_cell_below (below_drew (Below.refl _ _)) l0; have m1 := pw_cell_below (below_drew (Below.refl _ _)) l1; have m2 := pw_cell_below (below_drew (Below.refl _ _)) l2; have m4 := pw_cell_below (below_drew (Below.refl _ _)) l4; have n0 := pw_cell_below hb1 m0; have n1 := pw_cell_below hb1 m1; have n2 := pw_cell_below hb1 m2; have n4 := pw_cell_below hb1 m4) | (go_at_call 99; have hb3 := below_drew (Below.refl W.heap.size W); have HBY := Lib.hid (blw HB2.out (blw hb3 hb1)); have hGY1 := blk_below (blk_below HG1.out hb3) hb1; have hGY2 := blk_below (blk_below HG2.out hb3) hb1; refine (lay_any w0.heap.size N rv (.slice (some ad) ns.length c1) _ ⟨g, bt, br, bo, nv, pv⟩ s left _ [sg, ⟨true, left⟩] ((H.out.below HBY.out).below (below_alloc (Below.refl _ _) _)) (sym_row2 _ _ ?_ sg ⟨true, left⟩) ?_ ?_).mono ?_; (have := HBY.out.size; omega); (have := HBY.out.size; rw [size_alloc]; omega); omega; rintro e w2 ⟨rfl, pv2, hL2, hF2⟩; have HL2 := Lib.hid hL2; have HF2 := Lib.hid ((Fr.of_below (blw HBY.out (below_alloc (Below.refl _ _) _))).trans hF2); have hG3 := hF2.blk (blk_below hGY1 (below_alloc (Below.refl _ _) _)) (by decide) (by simp); have hG4 := hF2.blk (blk_below hGY2 (below_alloc (Below.refl _ _) _)) (by decide) (by simp); have p0 := (cells3 hG3).2.2; have p1 := (cells2 hG4).1; have p2 := (cells2 hG4).2; have p4 := pw_cell_below (HW.out.trans (HF2.out.toBelow HW.out.size)) HF0b.out; have HG3 := Lib.hid hG3; clear hL2 hF2 hG3 hGY1 hGY2 hb3))
  obtain ⟨_, _, e2'⟩ := cells3 HG3.out
  have f0' := pw_cell_below (HW.out.trans (HF2.out.toBelow HW.out.size)) (HF0.out)
  have f0b' := pw_cell_below (HW.out.trans (HF2.out.toBelow HW.out.size)) (HF0b.out)
  go_wp2_with fail
  refine (symk (s := { s with prods := s.prods ++ [⟨left, [sg, ⟨true, left⟩]⟩] }) (m := ⟨g, bt, br, bo, nv, pv2⟩) HT.out (HW.out.trans (HF2.out.toBelow HW.out.size)) HL2.out k0 hkk.1 hkk.2).mono ?_
  rintro e w4 ⟨rfl, hb4⟩
  have hsg2 : sgOf { s with prods := s.prods ++ [⟨left, [sg, ⟨true, left⟩]⟩] } ns k0 = sg := HSG.out
  rw [hsg2]
  have HB4 := Lib.hid hb4
  clear hsg2 e2' f0' f0b' hb4
  go_wp2_with fail
  refine (lay_any w0.heap.size N rv (.slice (some ad) ns.length c1) _ ⟨g, bt, br, bo, nv, pv2⟩ { s with prods := s.prods ++ [⟨left, [sg, ⟨true, left⟩]⟩] } left _ [sg] ((HL2.out.below HB4.out).below (below_alloc (Below.refl _ _) _)) (sym_row1 _ _ (by have := HB4.out.size; have := HF2.out.size; omega) sg) (by have := HB4.out.size; have := HF2.out.size; rw [size_alloc]; omega) (by rw [List.length_append]; simp; omega)).mono ?_
  rintro e w5 ⟨rfl, pv5, hL5, hF5⟩
  have HL5 := Lib.hid hL5
  have HF5 := Lib.hid (HF2.out.trans ((Fr.of_below (blw HB4.out (below_alloc (Below.refl _ _) _))).trans hF5))
  clear hL5 hF5
  go_wp2_with fail
  go_end0
  exact ⟨rfl, pv5, by rw [hnp.out]; have := HL5.out; simp only [List.append_assoc, List.cons_append, List.nil_append] at this; exact this, HF5.out⟩
end Go.Proofs.Ytoiejgmfgcdniaa
