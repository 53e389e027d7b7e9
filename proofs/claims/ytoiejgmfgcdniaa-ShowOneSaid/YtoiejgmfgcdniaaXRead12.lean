import Derived.Test.YtoiejgmfgcdniaaXRead8
set_option linter.unusedVariables false
set_option linter.unusedSimpArgs false
namespace Go.Proofs.Ytoiejgmfgcdniaa
open Go.RowKit Go.Proofs.YtoiejgmfgcdniaaW.PrintWords

/-! ### how much the parser may lay -/
def bud (toks : List Tok) (s : RdS) : Nat := s.nodes.length + s.used.length + 4 * (toks.length - s.pos)
def Thrift (toks : List Tok) (alt : RdS → RP) : Prop := ∀ s n s1, s.pos ≤ toks.length → alt s = .ok (n, s1) → bud toks s1 ≤ bud toks s + 2
theorem bud_lay (toks : List Tok) (s : RdS) (x : Node) : bud toks (layN s x).2 = bud toks s + 1 := by unfold bud layN; simp only [List.length_append, List.length_singleton]; omega
theorem bud_step (toks : List Tok) (s : RdS) (h : s.pos < toks.length) : bud toks (stepS s) + 4 = bud toks s := by unfold bud stepS; simp only; omega
theorem bud_one (toks : List Tok) (kind : Int) (l : List Int) (s : RdS) : bud toks (oneP kind l s).2 ≤ bud toks s + 1 := by
  unfold oneP
  split
  · simp
  · unfold bud; simp only [List.length_append, List.length_singleton]; omega
theorem atomW_thrift {toks : List Tok} {en : Int} {alt : RdS → RP} (ha : Mono toks alt) (hb : Thrift toks alt) {s s1 : RdS} {n : Int} (hs : s.pos < toks.length) (h : atomW toks en alt s = .ok (n, s1)) : bud toks s1 + 2 ≤ bud toks s := by
  have h0 := bud_step toks s hs
  unfold atomW at h
  split at h
  · cases hal : alt (stepS s) with
    | error p => rw [hal] at h; cases h
    | ok r =>
      obtain ⟨k, s2⟩ := r
      rw [hal] at h
      simp only at h
      have h1 := hb _ _ _ (by show s.pos + 1 ≤ _; omega) hal
      split at h
      · rename_i hm
        have h2 := bud_step toks s2 (isMark_lt hm)
        simp only [Except.ok.injEq, Prod.mk.injEq] at h
        obtain ⟨_, rfl⟩ := h
        omega
      · cases h
  · cases hx : toks[s.pos]? with
    | none => rw [hx] at h; cases h
    | some x =>
      rw [hx] at h
      simp only at h
      split at h
      · simp only [Except.ok.injEq] at h
        have h3 : s1 = (layN (stepS s) ⟨7, x.text, []⟩).2 := by rw [h]
        rw [h3, bud_lay]
        omega
      · cases hn : nameP toks en s.pos with
        | error p => rw [hn] at h; cases h
        | ok u =>
          rw [hn] at h
          simp only [Except.ok.injEq] at h
          have h3 : s1 = (layN { stepS s with used := s.used ++ [u] } ⟨6, u.name, []⟩).2 := by rw [h]
          rw [h3, bud_lay]
          have h4 : bud toks { stepS s with used := s.used ++ [u] } = bud toks (stepS s) + 1 := by unfold bud stepS; simp only [List.length_append, List.length_singleton]; omega
          omega
theorem itemW_thrift {toks : List Tok} {en : Int} {alt : RdS → RP} (ha : Mono toks alt) (hb : Thrift toks alt) {s s1 : RdS} {n : Int} (hs : s.pos < toks.length) (h : itemW toks en alt s = .ok (n, s1)) : bud toks s1 + 2 ≤ bud toks s := by
  unfold itemW at h
  cases hat : atomW toks en alt s with
  | error p => rw [hat] at h; cases h
  | ok r =>
    obtain ⟨k, s2⟩ := r
    rw [hat] at h
    simp only at h
    have h2 := atomW_thrift ha hb hs hat
    have key : ∀ (x : Node) (hm : s2.pos < toks.length), s1 = (layN (stepS s2) x).2 → bud toks s1 + 2 ≤ bud toks s := fun x hm e => by
      have := bud_step toks s2 hm
      rw [e, bud_lay]; omega
    split at h
    · rename_i hm
      simp only [Except.ok.injEq] at h
      exact key _ (isMark_lt hm) (by rw [h])
    split at h
    · rename_i hm
      simp only [Except.ok.injEq] at h
      exact key _ (isMark_lt hm) (by rw [h])
    split at h
    · rename_i hm
      simp only [Except.ok.injEq] at h
      exact key _ (isMark_lt hm) (by rw [h])
    · simp only [Except.ok.injEq, Prod.mk.injEq] at h
      obtain ⟨_, rfl⟩ := h
      exact h2
theorem itemsGo_thrift {toks : List Tok} {en : Int} {alt : RdS → RP} (ha : Mono toks alt) (hb : Thrift toks alt) : ∀ (f : Nat) (s : RdS) (l l' : List Int) (s1 : RdS), s.pos ≤ toks.length → itemsGo toks en alt f s l = .ok (l', s1) → bud toks s1 ≤ bud toks s := by
  intro f
  induction f with
  | zero => intro s l l' s1 hs h; simp only [itemsGo, Except.ok.injEq, Prod.mk.injEq] at h; obtain ⟨_, rfl⟩ := h; omega
  | succ f ih =>
    intro s l l' s1 hs h
    rw [itemsGo] at h
    split at h
    · rename_i hbg
      cases hi : itemW toks en alt s with
      | error p => rw [hi] at h; cases h
      | ok r =>
        obtain ⟨k, s2⟩ := r
        rw [hi] at h
        simp only at h
        have h2 := itemW_mono ha (beginsB_lt hbg) hi
        have h3 := itemW_thrift ha hb (beginsB_lt hbg) hi
        have := ih s2 _ _ _ h2.2 h
        omega
    · simp only [Except.ok.injEq, Prod.mk.injEq] at h; obtain ⟨_, rfl⟩ := h; omega
theorem altsGo_thrift {toks : List Tok} {en : Int} {alt : RdS → RP} (ha : Mono toks alt) (hb : Thrift toks alt) : ∀ (f : Nat) (s : RdS) (l l' : List Int) (s1 : RdS), s.pos ≤ toks.length → altsGo toks en alt f s l = .ok (l', s1) → bud toks s1 ≤ bud toks s + 1 := by
  intro f
  induction f with
  | zero => intro s l l' s1 hs h; simp only [altsGo, Except.ok.injEq, Prod.mk.injEq] at h; obtain ⟨_, rfl⟩ := h; omega
  | succ f ih =>
    intro s l l' s1 hs h
    rw [altsGo] at h
    cases hi : itemsGo toks en alt (toks.length + 1 - s.pos) s [] with
    | error p => rw [hi] at h; cases h
    | ok r =>
      obtain ⟨k, s2⟩ := r
      rw [hi] at h
      simp only at h
      have h2 := itemsGo_mono ha _ _ _ _ _ hs hi
      have h4 := itemsGo_thrift ha hb _ _ _ _ _ hs hi
      have h5 := bud_one toks 1 k s2
      split at h
      · rename_i hm
        have h3 := isMark_lt hm
        have h6 := bud_step toks (oneP 1 k s2).2 h3
        have := ih _ _ _ _ (by show (oneP 1 k s2).2.pos + 1 ≤ _; omega) h
        omega
      · simp only [Except.ok.injEq, Prod.mk.injEq] at h; obtain ⟨_, rfl⟩ := h; omega
theorem altW_thrift {toks : List Tok} {en : Int} {alt : RdS → RP} (ha : Mono toks alt) (hb : Thrift toks alt) : Thrift toks (altW toks en alt) := by
  intro s n s1 hs h
  unfold altW at h
  cases hi : altsGo toks en alt (toks.length + 1 - s.pos) s [] with
  | error p => rw [hi] at h; cases h
  | ok r =>
    obtain ⟨k, s2⟩ := r
    rw [hi] at h
    simp only [Except.ok.injEq] at h
    have h2 := altsGo_thrift ha hb _ _ _ _ _ hs hi
    have h3 : s1 = (oneP 2 k s2).2 := by rw [h]
    have h4 := bud_one toks 2 k s2
    rw [h3]
    omega
theorem altF_thrift (toks : List Tok) (en : Int) : ∀ f, Thrift toks (altF toks en f) := by
  intro f
  induction f with
  | zero => intro s n s1 _ h; cases h
  | succ f ih => exact altW_thrift (altF_mono toks en f) ih
end Go.Proofs.Ytoiejgmfgcdniaa
namespace Go.Proofs.Ytoiejgmfgcdniaa
open Go.RowKit Go.Proofs.YtoiejgmfgcdniaaW.PrintWords

/-! ### atom -/
def RPPost (B : Nat) (ok : Nat → Prop) (tv : Value) (en : Int) (w : World) (g : Nat) (r : RP) (e : Ending) (w' : World) : Prop :=
  match r with
  | .ok p => RIntPost B ok tv en w g p e w'
  | .error p => Wrong p e ∧ Fo ok B g w w'
def AltSaid (w0 : World) (A : Option Addr) (c : Nat) (toks : List Tok) (en : Int) (f : Nat) (alt : RdS → RP) : Prop :=
  ∀ (ok : Nat → Prop) (w : World) (m : RdM) (s : RdS), Below w0.heap.size w0 w → RSt w0.heap.size ok (.slice A toks.length c) en w m s → (∀ k, w.heap.size ≤ k → ok k) → s.pos ≤ toks.length → toks.length < f + s.pos → bud toks s + 2 ≤ 1000000 →
    Calls Try.prog 156 #[.pointer (some ⟨m.g, 0, none⟩)] w (RPPost w0.heap.size ok (.slice A toks.length c) en w m.g (alt s))
end Go.Proofs.Ytoiejgmfgcdniaa
namespace Go.Proofs.Ytoiejgmfgcdniaa
open Go.RowKit Go.Proofs.YtoiejgmfgcdniaaW.PrintWords

/-! ### atom -/
theorem sizeFr {B : Nat} {w w1 : World} {ok : Nat → Prop} (h : ∀ k, w.heap.size ≤ k → ok k) (hs : w.heap.size ≤ w1.heap.size) : ∀ k, w1.heap.size ≤ k → ok k := fun k hk => h k (Nat.le_trans hs hk)
set_option maxRecDepth 100000 in
set_option maxHeartbeats 2000000 in
theorem atom_open (w0 : World) (A : Option Addr) (c : Nat) (toks : List Tok) (en : Int) (f : Nat) (alt : RdS → RP) (halt : AltSaid w0 A c toks en f alt) (hmono : Mono toks alt) (ht : Kd.C kTok w0 A toks.length toks)
    (ok : Nat → Prop) (w : World) (m : RdM) (s : RdS) (hw : Below w0.heap.size w0 w) (h : RSt w0.heap.size ok (.slice A toks.length c) en w m s) (hfr : ∀ k, w.heap.size ≤ k → ok k) (hf : toks.length < f + 1 + s.pos) (hb : bud toks s ≤ 1000000)
    (hm : isMark toks s.pos (mkB 40) = true) :
    Calls Try.prog 200 #[.pointer (some ⟨m.g, 0, none⟩)] w (RPPost w0.heap.size ok (.slice A toks.length c) en w m.g (atomW toks en alt s)) := by
  have H := Lib.hid h
  have HW := Lib.hid hw
  have HK := Lib.hid ht
  have HA := Lib.hid halt
  have HFR := Lib.hid hfr
  have HM := Lib.hid hm
  have hlt := isMark_lt hm
  have hbs := bud_step toks s hlt
  have HT : Hid (takeS toks s (mkB 40) = stepS s) := Lib.hid (by unfold takeS; rw [if_pos hm]; rfl)
  have HQ : Hid (atomW toks en alt s = match alt (stepS s) with | .error p => .error p | .ok (n, s1) => if isMark toks s1.pos (mkB 41) then .ok (n, stepS s1) else .error (failP toks en s1.pos)) := Lib.hid (by unfold atomW; rw [if_pos hm]; cases alt (stepS s) <;> rfl)
  clear h hw ht halt hfr hm
  generalize atomW toks en alt s = res at HQ ⊢
  go_enter Try.func200, Try.ntmps200
  go_wp2_with fail
  refine (take_any w0.heap.size ok A c toks en w m s (mkB 40) H.out (Kd.C_below HK.out HW.out)).mono ?_
  rintro e w1 ⟨rfl, hS, hF⟩
  rw [HM.out]
  rw [HT.out] at hS
  have H1 := Lib.hid hS
  have HF1 := Lib.hid hF
  clear hS hF
  go_wp2_with fail
  refine (HA.out ok w1 m (stepS s) (HW.out.trans (HF1.out.toBelow HW.out.size)) H1.out (sizeFr (B := 0) HFR.out HF1.out.size) (by show s.pos + 1 ≤ _; omega) (by show toks.length < f + (s.pos + 1); omega) (by omega)).mono ?_
  intro e w2 hp
  cases hal : alt (stepS s) with
  | error p =>
    rw [hal] at hp HQ
    obtain ⟨he, hF2⟩ := hp
    unfold Wrong at he
    subst he
    have HF2 := Lib.hid (HF1.out.trans hF2)
    clear hF2 hal
    go_wp2_with fail
    refine ⟨rfl, ?_⟩
    rw [HQ.out]
    exact ⟨rfl, HF2.out⟩
  | ok r =>
    obtain ⟨n, s1⟩ := r
    rw [hal] at hp HQ
    obtain ⟨he, m2, hg2, hS2, hF2⟩ := hp
    subst he
    have HS2 := Lib.hid hS2
    have HF2 := Lib.hid (HF1.out.trans hF2)
    clear hF2 hal hS2
    simp only at HQ
    obtain ⟨g, rv, nv, gv, uv⟩ := m
    simp only at hg2
    go_wp2_with fail
    have hmust := must_any w0 ok A c toks en w2 m2 s1 (mkB 41) HK.out (HW.out.trans (HF2.out.toBelow HW.out.size)) HS2.out
    rw [hg2] at hmust
    refine hmust.mono ?_
    intro e w3 hp3
    unfold MustPost at hp3
    cases hm2 : isMark toks s1.pos (mkB 41)
    · rw [if_neg (by simp [hm2])] at hp3
      obtain ⟨he, hF3⟩ := hp3
      unfold Wrong at he
      subst he
      rw [hm2] at HQ
      have HF3 := Lib.hid (HF2.out.trans (hg2 ▸ hF3))
      clear hF3 hmust hm2
      go_wp2_with fail
      refine ⟨rfl, ?_⟩
      rw [HQ.out]
      exact ⟨rfl, HF3.out⟩
    · rw [if_pos hm2] at hp3
      obtain ⟨he, hS3, hF3⟩ := hp3
      subst he
      rw [hm2] at HQ
      have HS3 := Lib.hid hS3
      have HF3 := Lib.hid (HF2.out.trans (hg2 ▸ hF3))
      clear hF3 hS3 hmust hm2
      go_wp2_with fail
      go_ret
      rw [HQ.out]
      exact ⟨rfl, m2, hg2, HS3.out, HF3.out⟩
end Go.Proofs.Ytoiejgmfgcdniaa
namespace Go.Proofs.Ytoiejgmfgcdniaa
open Go.RowKit Go.Proofs.YtoiejgmfgcdniaaW.PrintWords

set_option maxRecDepth 100000 in
set_option maxHeartbeats 2000000 in
theorem atom_quote (w0 : World) (A : Option Addr) (c : Nat) (toks : List Tok) (en : Int) (alt : RdS → RP) (ht : Kd.C kTok w0 A toks.length toks)
    (ok : Nat → Prop) (w : World) (m : RdM) (s : RdS) (hw : Below w0.heap.size w0 w) (h : RSt w0.heap.size ok (.slice A toks.length c) en w m s) (hfr : ∀ k, w.heap.size ≤ k → ok k) (hb : bud toks s ≤ 1000000)
    (hm : isMark toks s.pos (mkB 40) = false) (x : Tok) (hx : toks[s.pos]? = some x) (h2 : x.kind = 2) :
    Calls Try.prog 200 #[.pointer (some ⟨m.g, 0, none⟩)] w (RPPost w0.heap.size ok (.slice A toks.length c) en w m.g (atomW toks en alt s)) := by
  have H := Lib.hid h
  have HW := Lib.hid hw
  have HK := Lib.hid ht
  have HFR := Lib.hid hfr
  have HM := Lib.hid hm
  have hmx := Kd.C_max ht
  have hlt : s.pos < toks.length := (List.getElem?_eq_some_iff.1 hx).1
  have hbs := bud_step toks s hlt
  have hbn : s.nodes.length ≤ 1000000 := by unfold bud at hb; omega
  have HT : Hid (takeS toks s (mkB 40) = s) := Lib.hid (by unfold takeS; rw [if_neg (by simp [hm])])
  have HQ : Hid (atomW toks en alt s = .ok (layN (stepS s) ⟨7, x.text, []⟩)) := Lib.hid (by unfold atomW; rw [if_neg (by simp [hm]), hx]; simp only [if_pos h2])
  have b2 : (x.kind == 2) = true := beq_iff_eq.2 h2
  have HX := Lib.hid hx
  clear h hw ht hfr hm hx h2
  generalize atomW toks en alt s = res at HQ ⊢
  go_enter Try.func200, Try.ntmps200
  go_wp2_with fail
  refine (take_any w0.heap.size ok A c toks en w m s (mkB 40) H.out (Kd.C_below HK.out HW.out)).mono ?_
  rintro e V ⟨rfl, hS, hF⟩
  rw [HM.out]
  rw [HT.out] at hS
  have HV := Lib.hid hS
  have HF1 := Lib.hid hF
  obtain ⟨g0, g1, _⟩ := hS.cs
  obtain ⟨ad, x', had, hx', k0, k1, k2⟩ := at_Tok (Kd.C_below HK.out (HW.out.trans (hF.toBelow HW.out.size))) s.pos hlt
  obtain rfl : x = x' := by have := HX.out; rw [this] at hx'; exact Option.some.inj hx'
  subst had
  have hgV := blk_lt hS.cells
  clear hS hF hx'
  have n0 := World.new_ne V _ g0
  have n1 := World.new_ne V _ g1
  have n2 := World.new_ne V _ k0
  have n3 := World.new_ne V _ k1
  have n4 := World.new_ne V _ k2
  go_upto_region 5 with (fail)
  go_region_held3 (fun w' => w'.cell? ⟨m.g, 0, none⟩ = some (.slice (some ad) toks.length c) ∧ w'.cell? ⟨m.g, 1, none⟩ = some (.int .i64 s.pos) ∧ w'.cell? (ad.add (s.pos * 3)) = some (.int .i64 x.kind) ∧ w'.cell? ⟨(ad.add (s.pos * 3)).block, (ad.add (s.pos * 3)).off + 1, none⟩ = some (.string x.text) ∧ w'.cell? ⟨(ad.add (s.pos * 3)).block, (ad.add (s.pos * 3)).off + 2, none⟩ = some (.int .i64 x.pos)) (go_keep) (fail)
  have hb3 : Below V.heap.size V (V.alloc (.cells #[.int .i64 x.kind, .string x.text, .int .i64 x.pos] 65)).drew := below_drew (below_alloc (Below.refl _ _) _)
  have hg3 : ((V.alloc (.cells #[.int .i64 x.kind, .string x.text, .int .i64 x.pos] 65)).drew).heap[V.heap.size]? = some (.cells #[.int .i64 x.kind, .string x.text, .int .i64 x.pos] 65 (0, 0)) := blk_new V _
  clear g0 g1 k0 k1 k2 n1 n2 n3 n4
  generalize (V.alloc (.cells #[.int .i64 x.kind, .string x.text, .int .i64 x.pos] 65)).drew = Y at *
  have HY := Lib.hid (HV.out.below hb3)
  have HFY := Lib.hid (HF1.out.trans (Fo.of_below hb3))
  obtain ⟨_, q1, _⟩ := HY.out.cs
  have q1f := blk_frozen HY.out.cells 1
  have hgY := blk_lt HY.out.cells
  obtain ⟨r0, r1, r2⟩ := cells3 hg3
  have hne3 : m.g ≠ V.heap.size := fun e => n0 e.symm
  clear hb3 hg3
  go_wp2_with fail
  have hmv := HY.out.move (s.pos + 1)
  rw [show ((s.pos + 1 : Nat) : Int) = (s.pos : Int) + 1 by omega] at hmv
  have hsz : Y.heap.size ≤ (Y.setCell ⟨m.g, 1, none⟩ (.int .i64 ((s.pos : Int) + 1))).heap.size := by rw [size_set]; exact Nat.le_refl _
  generalize Y.setCell ⟨m.g, 1, none⟩ (.int .i64 ((s.pos : Int) + 1)) = Z at *
  have HFZ := Lib.hid (HFY.out.trans hmv.2)
  have HZ := Lib.hid hmv.1
  refine (rnode_any w0.heap.size ok (fun _ => False) _ en Z m (stepS s) ⟨7, x.text, []⟩ (.slice none 0 0) HZ.out (Kd.R_nil _ _ _ _ _) (fun _ h => h.elim) (sizeFr (B := 0) HFR.out HFZ.out.size) (Nat.le_trans HW.out.size HFZ.out.size) hbn).mono ?_
  rintro e w5 ⟨rfl, nv5, hS5, hF5⟩
  have HS5 := Lib.hid hS5
  have HF5 := Lib.hid (HFZ.out.trans hF5)
  clear hS5 hF5 hmv
  go_wp2_with fail
  go_ret
  rw [HQ.out]
  exact ⟨rfl, { m with nv := nv5 }, rfl, HS5.out, HF5.out⟩
end Go.Proofs.Ytoiejgmfgcdniaa
