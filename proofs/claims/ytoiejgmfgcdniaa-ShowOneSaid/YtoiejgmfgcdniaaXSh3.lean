import Derived.Test.YtoiejgmfgcdniaaXLits
import Derived.Test.YtoiejgmfgcdniaaXRules4
set_option linter.unusedVariables false
set_option linter.unusedSimpArgs false
namespace Go.Proofs.Ytoiejgmfgcdniaa
open Go.RowKit Go.Proofs.YtoiejgmfgcdniaaW.PrintWords

/-! ### show: the writer's state -/
theorem info9s : (Try.prog.info? 9).map (fun i => (i.zero, i.size, i.bytes)) = some (some (.string ⟨#[]⟩), 1, 16) := by kernel_rfl
abbrev wrT : List Nat := [136, 9]
structure WSt (B : Nat) (rv nv : Value) (w : World) (g : Nat) (ov : Value) (out : List ByteArray) : Prop where
  cells : w.heap[g]? = some (.cells #[rv, nv, ov] 136 (0, 0))
  out : Kd.R Kd.string 9 w B (fun _ => True) ov out
  g0 : B ≤ g
theorem WSt.below {B : Nat} {rv nv : Value} {w w1 : World} {g : Nat} {ov : Value} {out : List ByteArray} (h : WSt B rv nv w g ov out) (hb : Below w.heap.size w w1) : WSt B rv nv w1 g ov out := ⟨blk_below h.cells hb, Kd.R_below h.out hb, h.g0⟩
def PutPost (B : Nat) (rv nv : Value) (w : World) (g : Nat) (out : List ByteArray) (e : Ending) (w' : World) : Prop :=
  e = .returned (.tuple #[]) ∧ ∃ ov, WSt B rv nv w' g ov out ∧ Fr B [] wrT w w'
set_option maxRecDepth 100000 in
set_option maxHeartbeats 1000000 in
theorem put_any (B : Nat) (rv nv : Value) (w : World) (g : Nat) (ov : Value) (out : List ByteArray) (h : WSt B rv nv w g ov out) (A : Option Addr) (tk : List ByteArray) (c n : Nat) (hc : Kd.C Kd.string w A n tk) (hB : B ≤ w.heap.size) (hl : out.length + n ≤ 1000000) :
    Calls Try.prog 70 #[.pointer (some ⟨g, 0, none⟩), .slice A n c] w (PutPost B rv nv w g (out ++ tk)) := by
  have H := Lib.hid h
  have HC := Lib.hid hc
  obtain ⟨d0, d1, d2⟩ := cells3 h.cells
  have hgl := blk_lt h.cells
  have hgf : w.frozen? ⟨g, 2, none⟩ = false := blk_frozen h.cells 2
  clear h hc
  go_enter Try.func70, Try.ntmps70
  go_wp2_with (at_builtin; refine Kd.R_append_row Value.string ⟨#[]⟩ (w0 := w) B rfl (.tmp 8) (.tmp 9) 31 9 _ 16 rfl Try.underlying31 info9s rfl (by omega) ov out tk A n c (fun _ => True) rfl rfl (fun _ _ => trivial) H.out.out HC.out (Below.refl _ _) hB (by omega) ?_; intro v1 w1 ho hb1 hg _; have HO := Lib.hid ho; have HG := Lib.hid (Fr.grown (B := B) (Ms := []) (T := wrT) H.out.out (by simp) (Nat.le_refl _) hg); have hcell := blk_grown H.out.cells hg (Kd.R_ne H.out.out H.out.cells (by decide)); clear ho hg hb1; have HCL := Lib.hid hcell; obtain ⟨av, cv, hsv⟩ := Kd.R_slice HO.out; rw [List.length_append] at hsv; subst hsv; have d2' : w1.cell? ⟨g, 2, none⟩ = some ov := (blk_cell hcell 2).trans rfl; have f2' : w1.frozen? ⟨g, 2, none⟩ = false := blk_frozen hcell 2; have hgl' := blk_lt hcell; clear hcell d2 hgf hgl)
  go_end0
  exact ⟨rfl, _, ⟨(blk_set HCL.out 2 _).trans rfl, Kd.R_set HO.out HCL.out (by decide) 2 _, H.out.g0⟩, HG.out.trans (Fr.set HCL.out (by simp) H.out.g0)⟩
theorem row1 (W : World) (base : Nat) (s : ByteArray) : Kd.C Kd.string (W.alloc (.cells #[.string s] 9)) (some ⟨W.heap.size, 0, none⟩) 1 [s] :=
  lit_reads (lit_row Kd.string 9 W 0 (Nat.zero_le _) [s] [.string s] ((Reps.none _ _).snoc (p := s) (c := [.string s]) rfl rfl) (by simp)) rfl
/-- A token that is laid in a row of its own is put out. -/
theorem put1_any (B : Nat) (rv nv : Value) (w : World) (g : Nat) (ov : Value) (out : List ByteArray) (h : WSt B rv nv w g ov out) (s : ByteArray) (hB : B ≤ w.heap.size) (hl : out.length + 1 ≤ 1000000) :
    Calls Try.prog 70 #[.pointer (some ⟨g, 0, none⟩), .slice (some ⟨w.heap.size, 0, none⟩) 1 1] (w.alloc (.cells #[.string s] 9)) (PutPost B rv nv w g (out ++ [s])) := by
  have hb := below_alloc (Below.refl w.heap.size w) (.cells #[.string s] 9)
  refine (put_any B rv nv (w.alloc (.cells #[.string s] 9)) g ov out (h.below hb) (some ⟨w.heap.size, 0, none⟩) [s] 1 1 (row1 w 0 s) (Nat.le_trans hB hb.size) hl).mono ?_
  rintro e w' ⟨rfl, ov', h1, h2⟩
  exact ⟨rfl, ov', h1, (Fr.of_below hb).trans h2⟩
end Go.Proofs.Ytoiejgmfgcdniaa
namespace Go.Proofs.Ytoiejgmfgcdniaa
open Go.RowKit Go.Proofs.YtoiejgmfgcdniaaW.PrintWords

/-! ### show: what is put out -/
def tB (b : UInt8) : ByteArray := ⟨#[b]⟩
def isMk (k : Int) : Bool := k == 3 || k == 4 || k == 5
def mkOf (k : Int) : ByteArray := if k = 3 then tB 42 else if k = 4 then tB 43 else if k = 5 then tB 63 else ⟨#[]⟩
def shAtom (ns : List Node) (sub : Nat → List ByteArray) (n : Nat) (x : Node) : List ByteArray :=
  if x.kind = 6 ∨ x.kind = 7 then sub n else [tB 40] ++ sub n ++ [tB 41]
def shItem (ns : List Node) (sub : Nat → List ByteArray) (n : Nat) (x : Node) : List ByteArray :=
  if isMk x.kind = true then sub n else shAtom ns sub n x
def shAlt (ns : List Node) (sub : Nat → List ByteArray) (n : Nat) (x : Node) : List ByteArray :=
  if x.kind = 1 then sub n else shItem ns sub n x
def atK (ns : List Node) (P : Nat → Node → List ByteArray) (k : Int) : List ByteArray := match ns[k.toNat]? with | some x => P k.toNat x | none => []
def inter : List (List ByteArray) → List ByteArray
  | [] => []
  | x :: xs => x ++ (xs.map (fun y => [tB 124] ++ y)).flatten
theorem inter_snoc (l : List (List ByteArray)) (y : List ByteArray) : inter (l ++ [y]) = if l = [] then y else inter l ++ [tB 124] ++ y := by
  cases l with
  | nil => simp [inter]
  | cons x xs => simp [inter]
def quoteB (s : ByteArray) : ByteArray := tB 39 ++ s ++ tB 39
def shNode (ns : List Node) (sub : Nat → List ByteArray) (x : Node) : List ByteArray :=
  if x.kind = 6 then [x.name] else if x.kind = 7 then [quoteB x.name]
  else if x.kind = 1 then (x.kids.map (atK ns (shItem ns sub))).flatten
  else if x.kind = 2 then inter (x.kids.map (atK ns (shAlt ns sub)))
  else atK ns (shAtom ns sub) (x.kids.headD 0) ++ [mkOf x.kind]
def shN (ns : List Node) : Nat → Nat → List ByteArray
  | 0, _ => []
  | f + 1, n => match ns[n]? with | some x => shNode ns (shN ns f) x | none => []
/-- What the call of node at numbers below f says. -/
def Sub (w0 : World) (rv : Value) (A1 : Option Addr) (c1 : Nat) (ns : List Node) (sub : Nat → List ByteArray) (f : Nat) : Prop :=
  ∀ (n : Nat) (w : World) (g : Nat) (ov : Value) (out : List ByteArray), n < f → n < ns.length → Below w0.heap.size w0 w → WSt w0.heap.size rv (.slice A1 ns.length c1) w g ov out → out.length + (sub n).length ≤ 1000000 →
    Calls Try.prog 71 #[.pointer (some ⟨g, 0, none⟩), .int .i64 n] w (PutPost w0.heap.size rv (.slice A1 ns.length c1) w g (out ++ sub n))
theorem PutPost.trans {B : Nat} {rv nv : Value} {w w1 : World} {g : Nat} {out : List ByteArray} {e : Ending} {w2 : World} (hf : Fr B [] wrT w w1) (h : PutPost B rv nv w1 g out e w2) : PutPost B rv nv w g out e w2 := by
  obtain ⟨rfl, ov, h1, h2⟩ := h
  exact ⟨rfl, ov, h1, hf.trans h2⟩
theorem PutPost.to {B : Nat} {rv nv : Value} {w : World} {g : Nat} {out out' : List ByteArray} {e : Ending} {w2 : World} (h : PutPost B rv nv w g out e w2) (ho : out = out') : PutPost B rv nv w g out' e w2 := by subst ho; exact h
theorem cf70 : ∀ args W, (callFunc 70 args).run Try.prog W = .ok (.enter 70 args) W := by
  intro args W; simp [callFunc, go_sem, Try.func70]; rfl
set_option maxRecDepth 100000 in
set_option maxHeartbeats 1000000 in
theorem repeated_any (k : Int) (w : World) : Calls Try.prog 127 #[.int .i64 k] w fun e w' => e = .returned (.tuple #[.string (mkOf k), .bool (isMk k)]) ∧ Below w.heap.size w w' := by
  by_cases h3 : k = 3
  · subst h3
    go_enter Try.func127, Try.ntmps127
    go_wp2_with fail
    go_ret2
    exact ⟨rfl, Below.refl _ _⟩
  by_cases h4 : k = 4
  · subst h4
    go_enter Try.func127, Try.ntmps127
    go_wp2_with fail
    go_ret2
    exact ⟨rfl, Below.refl _ _⟩
  by_cases h5 : k = 5
  · subst h5
    go_enter Try.func127, Try.ntmps127
    go_wp2_with fail
    go_ret2
    exact ⟨rfl, Below.refl _ _⟩
  have b3 : (k == 3) = false := by simpa using h3
  have b4 : (k == 4) = false := by simpa using h4
  have b5 : (k == 5) = false := by simpa using h5
  have e1 : Hid (mkOf k = ⟨#[]⟩) := Lib.hid (by simp [mkOf, h3, h4, h5])
  have e2 : Hid (isMk k = false) := Lib.hid (by simp [isMk, b3, b4, b5])
  clear h3 h4 h5
  go_enter Try.func127, Try.ntmps127
  go_wp2_with fail
  go_ret2
  exact ⟨by rw [e1.out, e2.out]; rfl, Below.refl _ _⟩
section
variable (w0 : World) (rv : Value) (A1 : Option Addr) (c1 : Nat) (ns : List Node) (sub : Nat → List ByteArray) (f : Nat) (hsub : Sub w0 rv A1 c1 ns sub f)
include hsub
set_option maxRecDepth 100000 in
set_option maxHeartbeats 1000000 in
theorem bracketed_any (n : Nat) (w : World) (g : Nat) (ov : Value) (out : List ByteArray) (hn : n < f) (hn2 : n < ns.length) (hw : Below w0.heap.size w0 w) (h : WSt w0.heap.size rv (.slice A1 ns.length c1) w g ov out) (hl : out.length + (sub n).length + 2 ≤ 1000000) :
    Calls Try.prog 160 #[.pointer (some ⟨g, 0, none⟩), .int .i64 n] w (PutPost w0.heap.size rv (.slice A1 ns.length c1) w g (out ++ ([tB 40] ++ sub n ++ [tB 41]))) := by
  have H := Lib.hid h
  have HW := Lib.hid hw
  clear h hw
  go_enter Try.func160, Try.ntmps160
  go_wp2_with fail
  refine (put1_any w0.heap.size rv _ w g ov out H.out ⟨#[40]⟩ HW.out.size (by omega)).mono ?_
  rintro e V ⟨rfl, ov1, h1, f1⟩
  have H1 := Lib.hid h1
  have F1 := Lib.hid f1
  have HW1 := Lib.hid (HW.out.trans (f1.toBelow HW.out.size))
  clear h1 f1
  go_wp2_with fail
  refine (hsub n V g ov1 (out ++ [⟨#[40]⟩]) hn hn2 HW1.out H1.out (by rw [List.length_append]; simp only [List.length_singleton]; omega)).mono ?_
  rintro e V2 ⟨rfl, ov2, h2, f2⟩
  have H2 := Lib.hid h2
  have F2 := Lib.hid (F1.out.trans f2)
  have HW2 := Lib.hid (HW1.out.trans (f2.toBelow HW1.out.size))
  clear h2 f2 F1 H1 HW1
  go_wp2_with fail
  refine (put1_any w0.heap.size rv _ V2 g ov2 _ H2.out ⟨#[41]⟩ HW2.out.size (by rw [List.length_append, List.length_append]; simp only [List.length_singleton]; omega)).mono ?_
  rintro e V3 ⟨rfl, ov3, h3, f3⟩
  have H3 := Lib.hid h3
  have F3 := Lib.hid (F2.out.trans f3)
  clear h3 f3
  go_wp2_with fail
  go_end0
  exact ⟨rfl, ov3, by have := H3.out; simpa [List.append_assoc, tB] using this, F3.out⟩
set_option maxRecDepth 100000 in
set_option maxHeartbeats 1000000 in
theorem atom_out (n : Nat) (x : Node) (w : World) (g : Nat) (ov : Value) (out : List ByteArray) (hn : n < f) (hx : ns[n]? = some x) (hr : Kd.C kNode w0 A1 ns.length ns) (hw : Below w0.heap.size w0 w) (h : WSt w0.heap.size rv (.slice A1 ns.length c1) w g ov out) (hl : out.length + (shAtom ns sub n x).length ≤ 1000000) :
    Calls Try.prog 128 #[.pointer (some ⟨g, 0, none⟩), .int .i64 n] w (PutPost w0.heap.size rv (.slice A1 ns.length c1) w g (out ++ shAtom ns sub n x)) := by
  have hlt : n < ns.length := (List.getElem?_eq_some_iff.1 hx).1
  obtain ⟨ad, x', A2, c2, had, hx', e0', e1', e2', l2, k2⟩ := at_Node (Kd.C_below hr hw) n hlt
  obtain rfl : x = x' := by rw [hx] at hx'; exact Option.some.inj hx'
  subst had
  obtain ⟨d0, d1, d2⟩ := cells3 h.cells
  have hm := Kd.C_max hr
  have H := Lib.hid h
  have HW := Lib.hid hw
  have HN := Lib.hid hx
  have HSUB := Lib.hid hsub
  clear h hw hr hx hx' e1' e2' l2 k2 hsub
  by_cases h6 : x.kind = 6
  · have HA : Hid (shAtom ns sub n x = sub n) := Lib.hid (by unfold shAtom; rw [if_pos (.inl h6)])
    have b6 : (x.kind == 6) = true := by simpa using h6
    have b7 : (x.kind == 7) = false := by rw [h6]; rfl
    rw [HA.out] at hl ⊢
    clear h6
    go_enter Try.func128, Try.ntmps128
    go_wp2_with fail
    refine (HSUB.out n w g ov out hn hlt HW.out H.out hl).mono ?_
    rintro e V ⟨rfl, ov1, h1, f1⟩
    go_wp2_with fail
    go_end0
    exact ⟨rfl, ov1, h1, f1⟩
  by_cases h7 : x.kind = 7
  · have HA : Hid (shAtom ns sub n x = sub n) := Lib.hid (by unfold shAtom; rw [if_pos (.inr h7)])
    have b6 : (x.kind == 6) = false := by rw [h7]; rfl
    have b7 : (x.kind == 7) = true := by simpa using h7
    rw [HA.out] at hl ⊢
    clear h6 h7
    go_enter Try.func128, Try.ntmps128
    go_wp2_with fail
    refine (HSUB.out n w g ov out hn hlt HW.out H.out hl).mono ?_
    rintro e V ⟨rfl, ov1, h1, f1⟩
    go_wp2_with fail
    go_end0
    exact ⟨rfl, ov1, h1, f1⟩
  have HA : Hid (shAtom ns sub n x = [tB 40] ++ sub n ++ [tB 41]) := Lib.hid (by unfold shAtom; rw [if_neg (by simp [h6, h7])])
  have b6 : (x.kind == 6) = false := by simpa using h6
  have b7 : (x.kind == 7) = false := by simpa using h7
  rw [HA.out] at hl ⊢
  clear h6 h7
  go_enter Try.func128, Try.ntmps128
  go_wp2_with fail
  refine (bracketed_any w0 rv _ c1 ns sub f HSUB.out n w g ov out hn hlt HW.out H.out (by simp only [List.length_append, List.length_singleton] at hl; omega)).mono ?_
  rintro e V ⟨rfl, ov1, h1, f1⟩
  go_wp2_with fail
  go_end0
  exact ⟨rfl, ov1, h1, f1⟩
set_option maxRecDepth 100000 in
set_option maxHeartbeats 1000000 in
theorem item_out (n : Nat) (x : Node) (w : World) (g : Nat) (ov : Value) (out : List ByteArray) (hn : n < f) (hx : ns[n]? = some x) (hr : Kd.C kNode w0 A1 ns.length ns) (hw : Below w0.heap.size w0 w) (h : WSt w0.heap.size rv (.slice A1 ns.length c1) w g ov out) (hl : out.length + (shItem ns sub n x).length ≤ 1000000) :
    Calls Try.prog 124 #[.pointer (some ⟨g, 0, none⟩), .int .i64 n] w (PutPost w0.heap.size rv (.slice A1 ns.length c1) w g (out ++ shItem ns sub n x)) := by
  have hlt : n < ns.length := (List.getElem?_eq_some_iff.1 hx).1
  obtain ⟨ad, x', A2, c2, had, hx', e0', e1', e2', l2, k2⟩ := at_Node (Kd.C_below hr hw) n hlt
  obtain rfl : x = x' := by rw [hx] at hx'; exact Option.some.inj hx'
  subst had
  obtain ⟨d0, d1, d2⟩ := cells3 h.cells
  have hm := Kd.C_max hr
  have H := Lib.hid h
  have HW := Lib.hid hw
  have HN := Lib.hid hx
  have HR := Lib.hid hr
  have HSUB := Lib.hid hsub
  clear h hw hr hx hx' e1' e2' l2 k2 hsub
  have hG : ∀ b : Bool, isMk x.kind = b → Hid (shItem ns sub n x = if b = true then sub n else shAtom ns sub n x) := fun b hb => Lib.hid (by unfold shItem; rw [hb])
  generalize hmk : isMk x.kind = mk at hG
  have HA := hG mk rfl
  have HMK := Lib.hid hmk
  clear hG hmk
  generalize shItem ns sub n x = p at HA hl ⊢
  go_enter Try.func124, Try.ntmps124
  go_wp2_with fail
  refine (repeated_any x.kind w).mono ?_
  rintro e V ⟨rfl, hb⟩
  rw [HMK.out]
  have HV := Lib.hid (H.out.below hb)
  have HWV := Lib.hid (HW.out.trans (hb.mono HW.out.size))
  have HF := Lib.hid (Fr.of_below (B := w0.heap.size) (Ms := []) (T := wrT) hb)
  clear hb d0 d1 d2 e0'
  cases mk with
  | true =>
    obtain rfl : p = sub n := HA.out
    go_wp2_with fail
    refine (HSUB.out n V g ov out hn hlt HWV.out HV.out hl).mono ?_
    rintro e V2 ⟨rfl, ov1, h1, f1⟩
    have H1 := Lib.hid h1
    have F1 := Lib.hid (HF.out.trans f1)
    clear h1 f1
    go_wp2_with fail
    go_end0
    exact ⟨rfl, ov1, H1.out, F1.out⟩
  | false =>
    obtain rfl : p = shAtom ns sub n x := HA.out
    go_wp2_with fail
    refine (atom_out w0 rv _ c1 ns sub f HSUB.out n x V g ov out hn HN.out HR.out HWV.out HV.out hl).mono ?_
    rintro e V2 ⟨rfl, ov1, h1, f1⟩
    have H1 := Lib.hid h1
    have F1 := Lib.hid (HF.out.trans f1)
    clear h1 f1
    go_wp2_with fail
    go_end0
    exact ⟨rfl, ov1, H1.out, F1.out⟩
set_option maxRecDepth 100000 in
set_option maxHeartbeats 1000000 in
theorem alt_out (n : Nat) (x : Node) (w : World) (g : Nat) (ov : Value) (out : List ByteArray) (hn : n < f) (hx : ns[n]? = some x) (hr : Kd.C kNode w0 A1 ns.length ns) (hw : Below w0.heap.size w0 w) (h : WSt w0.heap.size rv (.slice A1 ns.length c1) w g ov out) (hl : out.length + (shAlt ns sub n x).length ≤ 1000000) :
    Calls Try.prog 125 #[.pointer (some ⟨g, 0, none⟩), .int .i64 n] w (PutPost w0.heap.size rv (.slice A1 ns.length c1) w g (out ++ shAlt ns sub n x)) := by
  have hlt : n < ns.length := (List.getElem?_eq_some_iff.1 hx).1
  obtain ⟨ad, x', A2, c2, had, hx', e0', e1', e2', l2, k2⟩ := at_Node (Kd.C_below hr hw) n hlt
  obtain rfl : x = x' := by rw [hx] at hx'; exact Option.some.inj hx'
  subst had
  obtain ⟨d0, d1, d2⟩ := cells3 h.cells
  have hm := Kd.C_max hr
  have H := Lib.hid h
  have HW := Lib.hid hw
  have HN := Lib.hid hx
  have HR := Lib.hid hr
  have HSUB := Lib.hid hsub
  clear h hw hr hx hx' e1' e2' l2 k2 hsub
  by_cases h1 : x.kind = 1
  · have HA : Hid (shAlt ns sub n x = sub n) := Lib.hid (by unfold shAlt; rw [if_pos h1])
    have b1 : (x.kind == 1) = true := by simpa using h1
    rw [HA.out] at hl ⊢
    clear h1
    go_enter Try.func125, Try.ntmps125
    go_wp2_with fail
    refine (HSUB.out n w g ov out hn hlt HW.out H.out hl).mono ?_
    rintro e V ⟨rfl, ov1, h1, f1⟩
    go_wp2_with fail
    go_end0
    exact ⟨rfl, ov1, h1, f1⟩
  have HA : Hid (shAlt ns sub n x = shItem ns sub n x) := Lib.hid (by unfold shAlt; rw [if_neg h1])
  have b1 : (x.kind == 1) = false := by simpa using h1
  rw [HA.out] at hl ⊢
  clear h1
  go_enter Try.func125, Try.ntmps125
  go_wp2_with fail
  refine (item_out w0 rv _ c1 ns sub f HSUB.out n x w g ov out hn HN.out HR.out HW.out H.out hl).mono ?_
  rintro e V ⟨rfl, ov1, h1, f1⟩
  go_wp2_with fail
  go_end0
  exact ⟨rfl, ov1, h1, f1⟩
end
end Go.Proofs.Ytoiejgmfgcdniaa
namespace Go.Proofs.Ytoiejgmfgcdniaa
open Go.RowKit Go.Proofs.YtoiejgmfgcdniaaW.PrintWords

/-! ### show: each -/
theorem cf71 : ∀ args W, (callFunc 71 args).run Try.prog W = .ok (.enter 71 args) W := by
  intro args W; simp [callFunc, go_sem, Try.func71]; rfl
theorem cf124 : ∀ args W, (callFunc 124 args).run Try.prog W = .ok (.enter 124 args) W := by
  intro args W; simp [callFunc, go_sem, Try.func124]; rfl
theorem cf125 : ∀ args W, (callFunc 125 args).run Try.prog W = .ok (.enter 125 args) W := by
  intro args W; simp [callFunc, go_sem, Try.func125]; rfl
theorem cf126 : ∀ args W, (callFunc 126 args).run Try.prog W = .ok (.enter 126 args) W := by
  intro args W; simp [callFunc, go_sem, Try.func126]; rfl
/-- What the call of a function with the writer ahead says. -/
def One (w0 : World) (rv nv : Value) (g : Nat) (N : FuncId) (pc : Int → List ByteArray) (k : Int) : Prop :=
  ∀ (w : World) (ov : Value) (out : List ByteArray), Below w0.heap.size w0 w → WSt w0.heap.size rv nv w g ov out → out.length + (pc k).length ≤ 1000000 →
    Calls Try.prog N #[.pointer (some ⟨g, 0, none⟩), .int .i64 k] w (PutPost w0.heap.size rv nv w g (out ++ pc k))
section
variable (w0 : World) (rv nv : Value) (g : Nat) (N : FuncId) (pc : Int → List ByteArray)
theorem flat_snoc (l : List Int) (k : Int) : ((l ++ [k]).map pc).flatten = (l.map pc).flatten ++ pc k := by simp
theorem flat_le (l : List Int) (j : Nat) : ((l.take j).map pc).flatten.length ≤ (l.map pc).flatten.length := by
  conv => rhs; rw [← List.take_append_drop j l, List.map_append, List.flatten_append, List.length_append]
  omega
set_option maxRecDepth 100000 in
set_option maxHeartbeats 2000000 in
theorem each_seq (hcf : ∀ args W, (callFunc N args).run Try.prog W = .ok (.enter N args) W) (kids : List Int) (hone : ∀ k ∈ kids, One w0 rv nv g N pc k) (A2 : Option Addr) (c2 : Nat) (hk : Kd.C (Kd.int .i64) w0 A2 kids.length kids)
    (w : World) (ov : Value) (out : List ByteArray) (hw : Below w0.heap.size w0 w) (h : WSt w0.heap.size rv nv w g ov out) (hl : out.length + (kids.map pc).flatten.length ≤ 1000000) :
    Calls Try.prog 123 #[.slice A2 kids.length c2, .func (.func N) #[.pointer (some ⟨g, 0, none⟩)] #[], .slice none 0 0] w (PutPost w0.heap.size rv nv w g (out ++ (kids.map pc).flatten)) := by
  have hm := Kd.C_max hk
  have H := Lib.hid h
  have HW := Lib.hid hw
  have HK := Lib.hid hk
  clear h hw hk
  go_enter Try.func123, Try.ntmps123
  go_wp2_with fail
  go_loopw [12] (fun i wr => ∃ (j : Nat) (ov : Value), j ≤ kids.length ∧ i = .int .i64 j ∧ Hid (WSt w0.heap.size rv nv wr g ov (out ++ ((kids.take j).map pc).flatten)) ∧ Hid (Fr w0.heap.size [] wrT w wr)) (fun i _ => kids.length - (intOf i).toNat)
  case atStart => exact ⟨0, ov, Nat.zero_le _, rfl, Lib.hid (by simpa using H.out), Lib.hid (Fr.refl _ _ _ _)⟩
  case round =>
    clear H
    obtain ⟨j, ov1, hj, rfl, HS, HF⟩ := hrel
    have HB := Lib.hid (HW.out.trans (HF.out.toBelow HW.out.size))
    by_cases hlt : j < kids.length
    · obtain ⟨a3, k, had3, hk, e4⟩ := at_int (Kd.C_below HK.out HB.out) j hlt
      have HX := Lib.hid hk
      have HO := Lib.hid (hone k (List.mem_of_getElem? hk))
      subst had3
      have hL : ((kids.take (j + 1)).map pc).flatten = ((kids.take j).map pc).flatten ++ pc k := by rw [take_of hk, flat_snoc]
      have hle := flat_le pc kids (j + 1)
      rw [hL, List.length_append] at hle
      have HL := Lib.hid hL
      have HLE := Lib.hid (show (out ++ ((kids.take j).map pc).flatten).length + (pc k).length ≤ 1000000 by rw [List.length_append]; omega)
      clear hk hL hle
      go_wp2_with fail
      go_loopw [19] (fun i wr' => i = .int .i64 0 ∧ wr' = wr) (fun i _ => 0)
      case atStart => exact ⟨rfl, rfl⟩
      case round =>
        obtain ⟨rfl, rfl⟩ := hrel
        go_wp2_with fail
        refine (HO.out wr ov1 _ HB.out HS.out HLE.out).mono ?_
        rintro e V ⟨rfl, ov2, h2, f2⟩
        have H2 := Lib.hid h2
        have F2 := Lib.hid (HF.out.trans f2)
        clear h2 f2
        go_wp2_with fail
        go_roundw
        case rel => exact ⟨j + 1, ov2, by omega, by go_num, Lib.hid (by rw [HL.out, ← List.append_assoc]; exact H2.out), F2⟩
        case measure => simp [intOf]; omega
    · have HE : Hid (kids.take j = kids) := Lib.hid (List.take_of_length_le (by omega))
      go_wp2_with fail
      go_end0
      exact ⟨rfl, ov1, by have := HS.out; rwa [HE.out] at this, HF.out⟩
set_option maxRecDepth 100000 in
set_option maxHeartbeats 1000000 in
theorem bar_any (bx : Nat) (w : World) (ov : Value) (out : List ByteArray) (hb : w.heap[bx]? = some (.cells #[.pointer (some ⟨g, 0, none⟩)] 134 (0, 0))) (hw : Below w0.heap.size w0 w) (h : WSt w0.heap.size rv nv w g ov out) (hl : out.length + 1 ≤ 1000000) :
    Calls Try.prog 126 #[.pointer (some ⟨bx, 0, none⟩)] w (PutPost w0.heap.size rv nv w g (out ++ [tB 124])) := by
  have H := Lib.hid h
  have HW := Lib.hid hw
  have d0 : w.cell? ⟨bx, 0, none⟩ = some (.pointer (some ⟨g, 0, none⟩)) := (blk_cell hb 0).trans rfl
  clear h hw hb
  go_enter Try.func126, Try.ntmps126
  go_wp2_with fail
  refine (put1_any w0.heap.size rv _ w g ov out H.out ⟨#[124]⟩ HW.out.size (by omega)).mono ?_
  rintro e V ⟨rfl, ov1, h1, f1⟩
  go_wp2_with fail
  go_end0
  exact ⟨rfl, ov1, h1, f1⟩
theorem inter_le (l : List (List ByteArray)) (j : Nat) : (inter (l.take j)).length ≤ (inter l).length := by
  cases l with
  | nil => simp [inter]
  | cons x xs =>
    cases j with
    | zero => simp [inter]
    | succ j =>
      simp only [List.take_succ_cons, inter, List.length_append]
      conv => rhs; rw [← List.take_append_drop j xs, List.map_append, List.flatten_append, List.length_append]
      omega
set_option maxRecDepth 100000 in
set_option maxHeartbeats 4000000 in
theorem each_alt (hcf : ∀ args W, (callFunc N args).run Try.prog W = .ok (.enter N args) W) (kids : List Int) (hone : ∀ k ∈ kids, One w0 rv nv g N pc k) (A2 : Option Addr) (c2 : Nat) (hk : Kd.C (Kd.int .i64) w0 A2 kids.length kids)
    (bx br : Nat) (w : World) (ov : Value) (out : List ByteArray) (hb : w.heap[bx]? = some (.cells #[.pointer (some ⟨g, 0, none⟩)] 134 (0, 0))) (hbr : w.heap[br]? = some (.cells #[.func (.func 126) #[] #[.pointer (some ⟨bx, 0, none⟩)]] 1 (0, 0))) (hw : Below w0.heap.size w0 w) (h : WSt w0.heap.size rv nv w g ov out) (hl : out.length + (inter (kids.map pc)).length ≤ 1000000) :
    Calls Try.prog 123 #[.slice A2 kids.length c2, .func (.func N) #[.pointer (some ⟨g, 0, none⟩)] #[], .slice (some ⟨br, 0, none⟩) 1 1] w (PutPost w0.heap.size rv nv w g (out ++ inter (kids.map pc))) := by
  have hm := Kd.C_max hk
  have H := Lib.hid h
  have HW := Lib.hid hw
  have HK := Lib.hid hk
  have HBX := Lib.hid hb
  have HBR := Lib.hid hbr
  have hcf2 := cf126
  clear h hw hk hb hbr
  go_enter Try.func123, Try.ntmps123
  go_wp2_with fail
  go_loopw [12] (fun i wr => ∃ (j : Nat) (ov : Value), j ≤ kids.length ∧ i = .int .i64 j ∧ Hid (WSt w0.heap.size rv nv wr g ov (out ++ inter ((kids.map pc).take j))) ∧ Hid (Fr w0.heap.size [] wrT w wr)) (fun i _ => kids.length - (intOf i).toNat)
  case atStart => exact ⟨0, ov, Nat.zero_le _, rfl, Lib.hid (by simpa [inter] using H.out), Lib.hid (Fr.refl _ _ _ _)⟩
  case round =>
    clear H
    obtain ⟨j, ov1, hj, rfl, HS, HF⟩ := hrel
    have HB := Lib.hid (HW.out.trans (HF.out.toBelow HW.out.size))
    by_cases hlt : j < kids.length
    · obtain ⟨a3, k, had3, hk, e4⟩ := at_int (Kd.C_below HK.out HB.out) j hlt
      have HX := Lib.hid hk
      have HO := Lib.hid (hone k (List.mem_of_getElem? hk))
      have E4 := Lib.hid (show kids[j]? = some k from hk)
      subst had3
      have hT : (kids.map pc).take (j + 1) = (kids.map pc).take j ++ [pc k] := take_of (by rw [List.getElem?_map, hk]; rfl)
      have hL := inter_snoc ((kids.map pc).take j) (pc k)
      rw [← hT] at hL
      have hle := inter_le (kids.map pc) (j + 1)
      have HL := Lib.hid hL
      have HLE := Lib.hid (show out.length + (inter ((kids.map pc).take (j + 1))).length ≤ 1000000 by omega)
      have hbr1 := HF.out.blk HBR.out (by decide) (by simp)
      have hbx1 := HF.out.blk HBX.out (by decide) (by simp)
      have q0 : wr.cell? ⟨br, 0, none⟩ = some (.func (.func 126) #[] #[.pointer (some ⟨bx, 0, none⟩)]) := (blk_cell hbr1 0).trans rfl
      have HBX1 := Lib.hid hbx1
      clear hk hL hle hT hbr1 hbx1
      go_wp2_with fail
      -- between
      obtain ⟨wo, rfl⟩ : ∃ wo : World, wo = wr := ⟨_, rfl⟩
      by_cases hj0 : j = 0
      · subst hj0
        go_loopw [19] (fun i wr' => ∃ m : Nat, m ≤ 1 ∧ i = .int .i64 m ∧ wr' = wo) (fun i _ => 1 - (intOf i).toNat)
        case atStart => exact ⟨0, Nat.zero_le _, rfl, rfl⟩
        case round =>
          obtain ⟨m, hm1, rfl, rfl⟩ := hrel
          by_cases hml : m = 0
          · subst hml
            go_wp2_with fail
            go_roundw
            case rel => exact ⟨1, by omega, by go_num, trivial⟩
            case measure => simp [intOf]
          · obtain rfl : m = 1 := by omega
            go_wp2_with fail
            refine (HO.out wr ov1 _ HB.out HS.out (by have h1 := HLE.out; rw [HL.out] at h1; simpa [inter] using h1)).mono ?_
            rintro e V ⟨rfl, ov2, h2, f2⟩
            have H2 := Lib.hid h2
            have F2 := Lib.hid (HF.out.trans f2)
            clear h2 f2
            go_wp2_with fail
            go_roundw
            case rel => exact ⟨1, ov2, by omega, by go_num, Lib.hid (by rw [HL.out]; have := H2.out; simpa [inter] using this), F2⟩
            case measure => simp [intOf]; omega
      · have hne : (kids.map pc).take j ≠ [] := by
          intro e
          have := congrArg List.length e
          rw [List.length_take, List.length_map, List.length_nil] at this
          omega
        have HL2 := Lib.hid (HL.out.trans (if_neg hne))
        have HLE2 := Lib.hid (show out.length + (inter ((kids.map pc).take j)).length + 1 + (pc k).length ≤ 1000000 by have h1 := HLE.out; rw [HL2.out] at h1; simp only [List.length_append, List.length_singleton] at h1; omega)
        have hgt : decide ((j : Int) > 0) = true := decide_eq_true (by omega)
        clear HL HLE hne
        go_loopw [19] (fun i wr' => ∃ (m : Nat) (ov : Value), m ≤ 1 ∧ i = .int .i64 m ∧ Hid (WSt w0.heap.size rv nv wr' g ov (out ++ inter ((kids.map pc).take j) ++ if m = 0 then [] else [tB 124])) ∧ Hid (Fr w0.heap.size [] wrT wo wr') ∧ Hid (m = 0 → wr' = wo)) (fun i _ => 1 - (intOf i).toNat)
        case atStart => exact ⟨0, ov1, Nat.zero_le _, rfl, Lib.hid (by simpa using HS.out), Lib.hid (Fr.refl _ _ _ _), Lib.hid fun _ => rfl⟩
        case round =>
          obtain ⟨m, ov3, hm1, rfl, HS3, HF3, H0⟩ := hrel
          by_cases hml : m = 0
          · subst hml
            obtain rfl := H0.out rfl
            go_wp2_with fail
            refine (bar_any w0 rv nv g bx wr ov3 _ HBX1.out HB.out HS3.out (by have := HLE2.out; simp only [List.length_append, if_pos, List.length_nil]; omega)).mono ?_
            rintro e V ⟨rfl, ov2, h2, f2⟩
            have H2 := Lib.hid h2
            have F2 := Lib.hid f2
            clear h2 f2
            go_wp2_with fail
            go_roundw
            case rel => exact ⟨1, ov2, by omega, by go_num, Lib.hid (by have := H2.out; simpa using this), F2, Lib.hid (by omega)⟩
            case measure => simp [intOf]
          · obtain rfl : m = 1 := by omega
            clear H0
            have HB3 := Lib.hid (HB.out.trans (HF3.out.toBelow HB.out.size))
            go_wp2_with fail
            refine (HO.out wr ov3 _ HB3.out HS3.out (by have := HLE2.out; simp only [List.length_append, List.length_singleton, if_neg (show ¬ (1 = 0) by decide)]; omega)).mono ?_
            rintro e V ⟨rfl, ov2, h2, f2⟩
            have H2 := Lib.hid h2
            have F2 := Lib.hid ((HF.out.trans HF3.out).trans f2)
            clear h2 f2
            go_wp2_with fail
            go_roundw
            case rel => exact ⟨j + 1, ov2, by omega, by go_num, Lib.hid (by rw [HL2.out]; have := H2.out; simpa [List.append_assoc] using this), F2⟩
            case measure => simp [intOf]; omega
    · have HE : Hid ((kids.map pc).take j = kids.map pc) := Lib.hid (List.take_of_length_le (by rw [List.length_map]; omega))
      go_wp2_with fail
      go_end0
      exact ⟨rfl, ov1, by have := HS.out; rwa [HE.out] at this, HF.out⟩
end
end Go.Proofs.Ytoiejgmfgcdniaa
