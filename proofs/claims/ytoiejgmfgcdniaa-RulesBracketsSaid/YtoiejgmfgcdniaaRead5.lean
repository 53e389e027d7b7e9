import Derived.Test.YtoiejgmfgcdniaaRead4
set_option linter.unusedVariables false
set_option linter.unusedSimpArgs false
namespace Go.Proofs.Ytoiejgmfgcdniaa
open Go.RowKit Go.Proofs.YtoiejgmfgcdniaaW.PrintWords

/-! ### one -/
def oneP (kind : Int) (l : List Int) (s : RdS) : Int × RdS := if l.length = 1 then (l.headD 0, s) else ((s.nodes.length : Int), { s with nodes := s.nodes ++ [⟨kind, ⟨#[]⟩, l⟩] })
def RIntPost (B : Nat) (ok : Nat → Prop) (tv : Value) (en : Int) (w : World) (g : Nat) (r : Int × RdS) (e : Ending) (w' : World) : Prop :=
  e = .returned (.int .i64 r.1) ∧ ∃ m, m.g = g ∧ RSt B ok tv en w' m r.2 ∧ Fo ok B g w w'
set_option maxRecDepth 100000 in
set_option maxHeartbeats 1000000 in
theorem one_any (B : Nat) (ok okk : Nat → Prop) (tv : Value) (en : Int) (w : World) (m : RdM) (s : RdS) (kind : Int) (l : List Int) (kv : Value) (h : RSt B ok tv en w m s) (hk : (Kd.int .i64).R 3 w B okk kv l) (hok : ∀ k, okk k → ok k) (hfresh : ∀ k, w.heap.size ≤ k → ok k) (hB : B ≤ w.heap.size) (hn : s.nodes.length ≤ 1000000) :
    Calls Try.prog 184 #[.pointer (some ⟨m.g, 0, none⟩), .int .i64 kind, kv] w (RIntPost B ok tv en w m.g (oneP kind l s)) := by
  have H := Lib.hid h
  have HK := Lib.hid hk
  have HOK := Lib.hid hok
  have HFR := Lib.hid hfresh
  obtain ⟨Ak, ck, rfl, _, hC⟩ := Kd.R_reads hk
  have hmx := Kd.C_max hC
  have hgl := blk_lt h.cells
  by_cases h1 : l.length = 1
  · obtain ⟨ad, x, rfl, hx, e0⟩ := at_int hC 0 (by omega)
    have e0b := (show w.cell? (ad.add 0) = some (.int .i64 x) from e0)
    have e0c : w.cell? ad = some (.int .i64 x) := e0b
    have b1 : ((l.length : Int) == 1) = true := by rw [h1]; rfl
    have hP : Hid (oneP kind l s = (x, s)) := Lib.hid (by
      unfold oneP
      rw [if_pos h1]
      obtain ⟨z, rfl⟩ := List.length_eq_one_iff.1 h1
      simp only [List.getElem?_cons_zero, Option.some.injEq] at hx
      subst hx
      rfl)
    clear h hk hok hfresh hC hx
    go_enter Try.func184, Try.ntmps184
    go_wp2_with fail
    go_ret
    exact ⟨ret_int (by rw [hP.out]), m, rfl, by rw [hP.out]; exact H.out, Fo.refl _ _ _ _⟩
  · have b1 : ((l.length : Int) == 1) = false := beq_eq_false_iff_ne.2 (by omega)
    have hP : Hid (oneP kind l s = ((s.nodes.length : Int), { s with nodes := s.nodes ++ [⟨kind, ⟨#[]⟩, l⟩] })) := Lib.hid (by unfold oneP; rw [if_neg h1])
    clear h hk hok hfresh hC h1
    go_enter Try.func184, Try.ntmps184
    go_wp2_with fail
    refine (rnode_any B ok okk tv en w m s ⟨kind, ⟨#[]⟩, l⟩ _ H.out HK.out HOK.out HFR.out hB hn).mono ?_
    rintro e w1 ⟨rfl, nv, hS, hF⟩
    have HS := Lib.hid hS
    have HF := Lib.hid hF
    clear hS hF
    go_wp2_with fail
    go_ret
    exact ⟨ret_int (by rw [hP.out]), { m with nv := nv }, rfl, by rw [hP.out]; exact HS.out, HF.out⟩
/-! ### name -/
def nameP (toks : List Tok) (en : Int) (p : Nat) : Except Int Use := match toks[p]? with | some t => if t.kind = 1 then .ok ⟨t.text, t.pos⟩ else .error t.pos | none => .error en
def NamePost (B : Nat) (ok : Nat → Prop) (tv : Value) (en : Int) (w : World) (m : RdM) (s : RdS) (r : Except Int Use) (e : Ending) (w' : World) : Prop :=
  match r with
  | .ok u => e = .returned (.agg #[.string u.name, .int .i64 u.pos]) ∧ RSt B ok tv en w' m { s with pos := s.pos + 1 } ∧ Fo ok B m.g w w'
  | .error p => Wrong p e ∧ Fo ok B m.g w w'
set_option maxRecDepth 100000 in
set_option maxHeartbeats 1000000 in
theorem name_wrong (w0 : World) (ok : Nat → Prop) (A : Option Addr) (c : Nat) (toks : List Tok) (en : Int) (w : World) (m : RdM) (s : RdS) (ht : Kd.C kTok w0 A toks.length toks) (hw : Below w0.heap.size w0 w) (h : RSt w0.heap.size ok (.slice A toks.length c) en w m s)
    (hno : ∀ t, toks[s.pos]? = some t → t.kind ≠ 1) :
    Calls Try.prog 154 #[.pointer (some ⟨m.g, 0, none⟩)] w fun e w' => Wrong (failP toks en s.pos) e ∧ Fo ok w0.heap.size m.g w w' := by
  have H := Lib.hid h
  have HW := Lib.hid hw
  have HK := Lib.hid ht
  have HB := Lib.hid (fun o => below_alloc (Below.refl w.heap.size w) o)
  obtain ⟨d0, d1, _⟩ := (h.below (below_alloc (Below.refl _ _) (.cells #[.string ⟨#[]⟩, .int .i64 0] 187))).cs
  have hgl := blk_lt h.cells
  have hr := Kd.C_below ht (hw.trans ((below_alloc (Below.refl w.heap.size w) (.cells #[.string ⟨#[]⟩, .int .i64 0] 187)).mono hw.size))
  have hmx := Kd.C_max ht
  by_cases hlt : s.pos < toks.length
  · obtain ⟨ad, x, rfl, hx, e0, e1, e2⟩ := at_Tok hr s.pos hlt
    have hk := hno x hx
    have b1 : (x.kind != 1) = true := bne_iff_ne.2 hk
    clear h ht hw hno hk hr hx
    go_enter Try.func154, Try.ntmps154
    go_upto_region 1 with (fail)
    generalize hW : w.alloc (.cells #[.string ⟨#[]⟩, .int .i64 0] 187) = W at *
    have HBW := Lib.hid (hW ▸ HB.out (.cells #[.string ⟨#[]⟩, .int .i64 0] 187))
    clear hW
    go_quiet (fail)
    go_wp2_with fail
    have HQ := Lib.hid (blw HBW.out (pw_below_drewN (Below.refl W.heap.size W) nq))
    refine (fail_any w0.heap.size ok (some ad) c toks en _ m s (H.out.below HQ.out) (Kd.C_below HK.out (blwB (Nat.le_refl _) HW.out HQ.out))).mono ?_
    rintro e w2 ⟨he, hb2⟩
    unfold Wrong at he
    subst he
    have HF2 := Lib.hid (Fo.of_below (ok := ok) (B := w0.heap.size) (g := m.g) (blw HQ.out hb2))
    clear hb2
    go_wp2_with fail
    exact ⟨rfl, rfl, HF2.out⟩
  · clear h ht hw hno hr
    go_enter Try.func154, Try.ntmps154
    go_upto_region 1 with (fail)
    generalize hW : w.alloc (.cells #[.string ⟨#[]⟩, .int .i64 0] 187) = W at *
    have HBW := Lib.hid (hW ▸ HB.out (.cells #[.string ⟨#[]⟩, .int .i64 0] 187))
    clear hW
    go_quiet (fail)
    go_wp2_with fail
    have HQ := Lib.hid (blw HBW.out (pw_below_drewN (Below.refl W.heap.size W) nq))
    refine (fail_any w0.heap.size ok A c toks en _ m s (H.out.below HQ.out) (Kd.C_below HK.out (blwB (Nat.le_refl _) HW.out HQ.out))).mono ?_
    rintro e w2 ⟨he, hb2⟩
    unfold Wrong at he
    subst he
    have HF2 := Lib.hid (Fo.of_below (ok := ok) (B := w0.heap.size) (g := m.g) (blw HQ.out hb2))
    clear hb2
    go_wp2_with fail
    exact ⟨rfl, rfl, HF2.out⟩
end Go.Proofs.Ytoiejgmfgcdniaa
