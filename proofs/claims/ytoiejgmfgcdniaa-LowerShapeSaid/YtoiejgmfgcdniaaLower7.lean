import Derived.Test.YtoiejgmfgcdniaaLower6
set_option linter.unusedVariables false
set_option linter.unusedSimpArgs false
namespace Go.Proofs.Ytoiejgmfgcdniaa
open Go.RowKit Go.Proofs.YtoiejgmfgcdniaaW.PrintWords
open Go.Maps (Keyed)

/-! ### node -/
theorem sym_row (W : World) (base : Nat) (hb : base ≤ W.heap.size) (xs : List Sym) (inner : List Value) (hi : Reps (kSym.M W base (fun _ => False)) kSym.sz xs inner) (hl : xs.length ≤ 1000) :
    kSym.R 41 (W.alloc (.cells inner.toArray 41)) base (fun _ => True) (.slice (some ⟨W.heap.size, 0, none⟩) xs.length xs.length) xs := by
  refine ⟨fun _ _ => trivial, inner, ?_, ?_⟩
  · have h2 := World.ownsRow_lit (base := base) (e := 41) (size := kSym.sz) W inner.toArray xs.length hb (by unfold maxLen; omega) (by simpa using hi.1)
    simpa using h2
  · exact hi.imp_ (fun p c hp => Kd.M_mono kSym (fun k hk => hk.1.elim) (Kd.M_below (Kd.M_bound kSym hp) (below_alloc (Below.refl _ _) _)))
theorem sym_row1 (W : World) (base : Nat) (hb : base ≤ W.heap.size) (x : Sym) :
    kSym.R 41 (W.alloc (.cells #[.bool x.non, .int .i64 x.n] 41)) base (fun _ => True) (.slice (some ⟨W.heap.size, 0, none⟩) 1 1) [x] :=
  sym_row W base hb [x] [.bool x.non, .int .i64 x.n] ((Reps.none _ _).snoc (kSym_mkM _ _ _ x) rfl) (by simp)
theorem sym_row2 (W : World) (base : Nat) (hb : base ≤ W.heap.size) (x y : Sym) :
    kSym.R 41 (W.alloc (.cells #[.bool x.non, .int .i64 x.n, .bool y.non, .int .i64 y.n] 41)) base (fun _ => True) (.slice (some ⟨W.heap.size, 0, none⟩) 2 2) [x, y] :=
  sym_row W base hb [x, y] [.bool x.non, .int .i64 x.n, .bool y.non, .int .i64 y.n] (((Reps.none _ _).snoc (kSym_mkM _ _ _ x) rfl).snoc (kSym_mkM _ _ _ y) rfl) (by simp)
def nodeAt (ns : List Node) (k : Int) : Node := (ns[k.toNat]?).getD ⟨0, ⟨#[]⟩, []⟩
def sgOf (s : LowS) (ns : List Node) (k : Int) : Sym := symP s (nodeAt ns k) k.toNat
def altP (s : LowS) (ns : List Node) (left : Int) (k : Int) : Prod := if (nodeAt ns k).kind = 1 then ⟨left, (nodeAt ns k).kids.map (sgOf s ns)⟩ else ⟨left, [sgOf s ns k]⟩
def nodeP (s : LowS) (ns : List Node) (left : Int) (n : Int) (x : Node) : List Prod :=
  if x.kind = 1 then [⟨left, x.kids.map (sgOf s ns)⟩]
  else if x.kind = 2 then x.kids.map (altP s ns left)
  else if x.kind = 3 then [⟨left, [sgOf s ns (x.kids.headD 0), ⟨true, left⟩]⟩, ⟨left, []⟩]
  else if x.kind = 4 then [⟨left, [sgOf s ns (x.kids.headD 0), ⟨true, left⟩]⟩, ⟨left, [sgOf s ns (x.kids.headD 0)]⟩]
  else if x.kind = 5 then [⟨left, [sgOf s ns (x.kids.headD 0)]⟩, ⟨left, []⟩]
  else [⟨left, [sgOf s ns n]⟩]
def NodePost (B N : Nat) (rv tv : Value) (w : World) (m : LowM) (s : LowS) (ps : List Prod) (e : Ending) (w' : World) : Prop :=
  e = .returned (.tuple #[]) ∧ ∃ pv, LSt B N rv tv w' { m with pv := pv } { s with prods := s.prods ++ ps } ∧ Fr B [] [98, 39] w w'
structure TreeOk (w0 : World) (A1 : Option Addr) (ns : List Node) : Prop where
  row : Kd.C kNode w0 A1 ns.length ns
  len : ns.length ≤ 100000
  ok : ∀ x, x ∈ ns → x.name.size ≤ 140737488351232 ∧ (∀ k, k ∈ x.kids → 0 ≤ k ∧ k < ns.length) ∧ x.kids.length ≤ 100000
theorem symk {N : Nat} {rv : Value} {w0 W : World} {m : LowM} {s : LowS} {ns : List Node} {A1 : Option Addr} {c1 : Nat} (ht : TreeOk w0 A1 ns) (hW : Below w0.heap.size w0 W) (h : LSt w0.heap.size N rv (.slice A1 ns.length c1) W m s) (k : Int) (h0 : 0 ≤ k) (h1 : k < ns.length) :
    Calls Try.prog 98 #[.pointer (some ⟨m.g, 0, none⟩), .int .i64 k] W (SymPost (sgOf s ns k) W) := by
  obtain ⟨n, rfl⟩ : ∃ n : Nat, k = n := ⟨k.toNat, by omega⟩
  have hn : ns[n]? = some ns[n] := List.getElem?_eq_getElem (by omega)
  have := symbol_any w0.heap.size N rv W m s ns A1 c1 n ns[n] h (Kd.C_below ht.row hW) hn (ht.ok _ (List.getElem_mem _)).1
  unfold sgOf nodeAt
  rw [Int.toNat_natCast, hn]
  exact this
set_option maxRecDepth 100000 in
set_option maxHeartbeats 2000000 in
theorem node_rest (w0 : World) (N : Nat) (rv : Value) (A1 : Option Addr) (c1 : Nat) (ns : List Node) (w : World) (m : LowM) (s : LowS) (left : Int) (n : Nat) (x : Node) (hx : ns[n]? = some x)
    (ht : TreeOk w0 A1 ns) (hw : Below w0.heap.size w0 w) (h : LSt w0.heap.size N rv (.slice A1 ns.length c1) w m s) (hp : s.prods.length + x.kids.length + 2 ≤ 1000000)
    (hk : x.kind ≠ 1 ∧ x.kind ≠ 2 ∧ x.kind ≠ 3 ∧ x.kind ≠ 4 ∧ x.kind ≠ 5) :
    Calls Try.prog 48 #[.pointer (some ⟨m.g, 0, none⟩), .int .i64 left, .int .i64 n] w (NodePost w0.heap.size N rv (.slice A1 ns.length c1) w m s (nodeP s ns left n x)) := by
  have hlt : n < ns.length := (List.getElem?_eq_some_iff.1 hx).1
  obtain ⟨ad, x', A2, c2, had, hx', e0', e1', e2', l2, k2⟩ := at_Node ht.row n hlt
  obtain rfl : x = x' := by rw [hx] at hx'; exact Option.some.inj hx'
  have e0 := pw_cell_below hw e0'
  have e1 := pw_cell_below hw e1'
  have e2 := pw_cell_below hw e2'
  have hmx := Kd.C_max ht.row
  have hkok := (ht.ok x (List.mem_of_getElem? hx)).2.1
  have hklen := (ht.ok x (List.mem_of_getElem? hx)).2.2
  subst had
  have HKOK := Lib.hid hkok
  obtain ⟨d0, d1, _, d3, d4, d5, _⟩ := h.cs
  have hgl := blk_lt h.cells
  have H := Lib.hid h
  have HT := Lib.hid ht
  have HW := Lib.hid hw
  have K2 := Lib.hid (Kd.C_below k2 hw)
  have hsw := hw.size
  have hnp : Hid (nodeP s ns left n x = [⟨left, [sgOf s ns n]⟩]) := Lib.hid (by unfold nodeP; rw [if_neg hk.1, if_neg hk.2.1, if_neg hk.2.2.1, if_neg hk.2.2.2.1, if_neg hk.2.2.2.2])
  have b1 : (x.kind == 1) = false := beq_eq_false_iff_ne.2 hk.1
  have b2 : (x.kind == 2) = false := beq_eq_false_iff_ne.2 hk.2.1
  have b3 : (x.kind == 3) = false := beq_eq_false_iff_ne.2 hk.2.2.1
  have b4 : (x.kind == 4) = false := beq_eq_false_iff_ne.2 hk.2.2.2.1
  have b5 : (x.kind == 5) = false := beq_eq_false_iff_ne.2 hk.2.2.2.2
  have hcf : ∀ args W, (callFunc 98 args).run Try.prog W = .ok (.enter 98 args) W := by intro args W; simp [callFunc, go_sem, Try.func98]; rfl
  clear ht h hw hx hx' e0' e1' e2' l2 k2 hk hkok
  obtain ⟨g, bt, br, bo, nv, pv⟩ := m
  simp only at d0 d1 d3 d4 d5 hgl
  go_enter Try.func48, Try.ntmps48
  go_wp2_with fail
  refine (symk (m := ⟨g, bt, br, bo, nv, pv⟩) HT.out (blwB (Nat.le_refl _) HW.out (bel2n _ _)) (H.out.below (bel2n _ _)) n (by omega) (by omega)).mono ?_
  rintro e w1 ⟨rfl, hb1⟩
  have hb2 := blw (bel2n _ _) hb1
  have HB2 := Lib.hid hb2
  generalize sgOf s ns n = sg at *
  go_wp2_with fail
  refine (lay_any w0.heap.size N rv (.slice (some ad) ns.length c1) _ ⟨g, bt, br, bo, nv, pv⟩ s left _ [sg] ((H.out.below HB2.out).below (below_alloc (Below.refl _ _) _)) (sym_row1 _ _ (by have := HB2.out.size; omega) sg) (by have := HB2.out.size; rw [size_alloc]; omega) (by omega)).mono ?_
  rintro e w2 ⟨rfl, pv2, hL2, hF2⟩
  have HL2 := Lib.hid hL2
  have HF2 := Lib.hid ((Fr.of_below (blw HB2.out (below_alloc (Below.refl _ _) _))).trans hF2)
  clear hL2 hF2
  go_wp2_with fail
  go_end0
  exact ⟨rfl, pv2, by rw [hnp.out]; exact HL2.out, HF2.out⟩
set_option maxRecDepth 100000 in
set_option maxHeartbeats 2000000 in
theorem node_seq (w0 : World) (N : Nat) (rv : Value) (A1 : Option Addr) (c1 : Nat) (ns : List Node) (w : World) (m : LowM) (s : LowS) (left : Int) (n : Nat) (x : Node) (hx : ns[n]? = some x)
    (ht : TreeOk w0 A1 ns) (hw : Below w0.heap.size w0 w) (h : LSt w0.heap.size N rv (.slice A1 ns.length c1) w m s) (hp : s.prods.length + x.kids.length + 2 ≤ 1000000)
    (hk : x.kind = 1) :
    Calls Try.prog 48 #[.pointer (some ⟨m.g, 0, none⟩), .int .i64 left, .int .i64 n] w (NodePost w0.heap.size N rv (.slice A1 ns.length c1) w m s (nodeP s ns left n x)) := by
  have hlt : n < ns.length := (List.getElem?_eq_some_iff.1 hx).1
  obtain ⟨ad, x', A2, c2, had, hx', e0', e1', e2', l2, k2⟩ := at_Node ht.row n hlt
  obtain rfl : x = x' := by rw [hx] at hx'; exact Option.some.inj hx'
  have e0 := pw_cell_below hw e0'
  have e1 := pw_cell_below hw e1'
  have e2 := pw_cell_below hw e2'
  have hmx := Kd.C_max ht.row
  have hkok := (ht.ok x (List.mem_of_getElem? hx)).2.1
  have hklen := (ht.ok x (List.mem_of_getElem? hx)).2.2
  subst had
  have HKOK := Lib.hid hkok
  obtain ⟨d0, d1, _, d3, d4, d5, _⟩ := h.cs
  have hgl := blk_lt h.cells
  have H := Lib.hid h
  have HT := Lib.hid ht
  have HW := Lib.hid hw
  have K2 := Lib.hid (Kd.C_below k2 hw)
  have hsw := hw.size
  have hnp : Hid (nodeP s ns left n x = [⟨left, x.kids.map (sgOf s ns)⟩]) := Lib.hid (by unfold nodeP; rw [hk]; rfl)
  have b1 : (x.kind == 1) = true := by rw [hk]; rfl
  have b2 : (x.kind == 2) = false := by rw [hk]; rfl
  have b3 : (x.kind == 3) = false := by rw [hk]; rfl
  have b4 : (x.kind == 4) = false := by rw [hk]; rfl
  have b5 : (x.kind == 5) = false := by rw [hk]; rfl
  have hcf : ∀ args W, (callFunc 98 args).run Try.prog W = .ok (.enter 98 args) W := by intro args W; simp [callFunc, go_sem, Try.func98]; rfl
  clear ht h hw hx hx' e0' e1' e2' l2 k2 hk hkok
  obtain ⟨g, bt, br, bo, nv, pv⟩ := m
  simp only at d0 d1 d3 d4 d5 hgl
  go_enter Try.func48, Try.ntmps48
  go_wp2_with fail
  refine (all_any 98 (.pointer (some ⟨g, 0, none⟩)) (sgOf s ns) A2 x.kids.length c2 x.kids _ (Kd.C_below K2.out (bel2n _ _)) (by omega) hcf (fun k W hk hb => symk (m := ⟨g, bt, br, bo, nv, pv⟩) HT.out (blwB (Nat.le_refl _) HW.out (blw (bel2n _ _) hb)) (H.out.below (blw (bel2n _ _) hb)) k (HKOK.out k hk).1 (HKOK.out k hk).2)).mono ?_
  rintro e w1 ⟨v, rfl, hv, hb1⟩
  have HB2 := Lib.hid (blw (bel2n _ _) hb1)
  have HV := Lib.hid (Kd.R_lower hv (show w0.heap.size ≤ _ by rw [size_alloc, size_alloc]; omega))
  clear hv hb1
  go_wp2_with fail
  refine (lay_any w0.heap.size N rv (.slice (some ad) ns.length c1) _ ⟨g, bt, br, bo, nv, pv⟩ s left _ (x.kids.map (sgOf s ns)) (H.out.below HB2.out) HV.out (by have := HB2.out.size; omega) (by omega)).mono ?_
  rintro e w2 ⟨rfl, pv2, hL2, hF2⟩
  have HL2 := Lib.hid hL2
  have HF2 := Lib.hid ((Fr.of_below HB2.out).trans hF2)
  clear hL2 hF2
  go_wp2_with fail
  go_end0
  exact ⟨rfl, pv2, by rw [hnp.out]; exact HL2.out, HF2.out⟩
end Go.Proofs.Ytoiejgmfgcdniaa
