import Derived.Test.YtoiejgmfgcdniaaXRead12
import Derived.Deep.RegionHeld3
set_option linter.unusedVariables false
set_option linter.unusedSimpArgs false
namespace Go.Proofs.Ytoiejgmfgcdniaa
open Go.RowKit Go.Proofs.YtoiejgmfgcdniaaW.PrintWords

set_option maxRecDepth 100000 in
set_option maxHeartbeats 2000000 in
theorem atom_name (w0 : World) (A : Option Addr) (c : Nat) (toks : List Tok) (en : Int) (alt : RdS → RP) (ht : Kd.C kTok w0 A toks.length toks)
    (ok : Nat → Prop) (w : World) (m : RdM) (s : RdS) (hw : Below w0.heap.size w0 w) (h : RSt w0.heap.size ok (.slice A toks.length c) en w m s) (hfr : ∀ k, w.heap.size ≤ k → ok k) (hb : bud toks s ≤ 1000000)
    (hm : isMark toks s.pos (mkB 40) = false) (x : Tok) (hx : toks[s.pos]? = some x) (h2 : x.kind ≠ 2) (h1 : x.kind = 1) :
    Calls Try.prog 200 #[.pointer (some ⟨m.g, 0, none⟩)] w (RPPost w0.heap.size ok (.slice A toks.length c) en w m.g (atomW toks en alt s)) := by
  have H := Lib.hid h
  have HW := Lib.hid hw
  have HK := Lib.hid ht
  have HFR := Lib.hid hfr
  have HM := Lib.hid hm
  have hmx := Kd.C_max ht
  have hlt : s.pos < toks.length := (List.getElem?_eq_some_iff.1 hx).1
  have hbs := bud_step toks s hlt
  have hbn : s.nodes.length ≤ 1000000 ∧ s.used.length ≤ 1000000 := by unfold bud at hb; omega
  have HT : Hid (takeS toks s (mkB 40) = s) := Lib.hid (by unfold takeS; rw [if_neg (by simp [hm])])
  have HN : Hid (nameP toks en s.pos = .ok ⟨x.text, x.pos⟩) := Lib.hid (by unfold nameP; rw [hx]; simp only [if_pos h1])
  have HQ : Hid (atomW toks en alt s = .ok (layN { stepS s with used := s.used ++ [⟨x.text, x.pos⟩] } ⟨6, x.text, []⟩)) := Lib.hid (by unfold atomW; rw [if_neg (by simp [hm]), hx, HN.out]; simp only [if_neg h2])
  have b2 : (x.kind == 2) = false := beq_eq_false_iff_ne.2 h2
  have HX := Lib.hid hx
  clear h hw ht hfr hm hx h2 h1
  generalize atomW toks en alt s = res at HQ ⊢
  go_enter Try.func200, Try.ntmps200
  go_wp2_with fail
  refine (take_any w0.heap.size ok A c toks en w m s (mkB 40) H.out (Kd.C_below HK.out HW.out)).mono ?_
  rintro e V ⟨rfl, hS, hF⟩
  rw [HM.out]
  rw [HT.out] at hS
  have HV := Lib.hid hS
  have HF1 := Lib.hid hF
  obtain ⟨g0, g1, _⟩ := hS.cs
  obtain ⟨ad, x', had, hx', k0, k1, k2⟩ := at_Tok (Kd.C_below HK.out (HW.out.trans (hF.toBelow HW.out.size))) s.pos hlt
  obtain rfl : x = x' := by have := HX.out; rw [this] at hx'; exact Option.some.inj hx'
  subst had
  have hgV := blk_lt hS.cells
  clear hS hF hx'
  have n0 := World.new_ne V _ g0
  have n1 := World.new_ne V _ g1
  have n2 := World.new_ne V _ k0
  have n3 := World.new_ne V _ k1
  have n4 := World.new_ne V _ k2
  go_upto_region 5 with (fail)
  go_region_held3 (fun w' => w'.cell? ⟨m.g, 0, none⟩ = some (.slice (some ad) toks.length c) ∧ w'.cell? ⟨m.g, 1, none⟩ = some (.int .i64 s.pos) ∧ w'.cell? (ad.add (s.pos * 3)) = some (.int .i64 x.kind) ∧ w'.cell? ⟨(ad.add (s.pos * 3)).block, (ad.add (s.pos * 3)).off + 1, none⟩ = some (.string x.text) ∧ w'.cell? ⟨(ad.add (s.pos * 3)).block, (ad.add (s.pos * 3)).off + 2, none⟩ = some (.int .i64 x.pos)) (go_keep) (fail)
  have hb3 : Below V.heap.size V (V.alloc (.cells #[.int .i64 x.kind, .string x.text, .int .i64 x.pos] 65)).drew := below_drew (below_alloc (Below.refl _ _) _)
  have hg3 : ((V.alloc (.cells #[.int .i64 x.kind, .string x.text, .int .i64 x.pos] 65)).drew).heap[V.heap.size]? = some (.cells #[.int .i64 x.kind, .string x.text, .int .i64 x.pos] 65 (0, 0)) := blk_new V _
  clear g0 g1 k0 k1 k2 n1 n2 n3 n4
  generalize (V.alloc (.cells #[.int .i64 x.kind, .string x.text, .int .i64 x.pos] 65)).drew = Y at *
  have HY := Lib.hid (HV.out.below hb3)
  have HFY := Lib.hid (HF1.out.trans (Fo.of_below hb3))
  obtain ⟨r0, r1, r2⟩ := cells3 hg3
  clear hb3 hg3
  go_wp2_with fail
  refine (rname_any w0 ok (some ad) c toks en Y m s HK.out (HW.out.trans (HFY.out.toBelow HW.out.size)) HY.out).mono ?_
  intro e w2 hp
  rw [HN.out] at hp
  obtain ⟨rfl, hS2, hF2⟩ := hp
  have HS2 := Lib.hid hS2
  have HF2 := Lib.hid (HFY.out.trans hF2)
  clear hS2 hF2 r0 r1 r2 n0
  go_upto_region 10 with (fail)
  obtain ⟨g, rv, nv, gv, uv⟩ := m
  obtain ⟨Au, cu, hus⟩ := Kd.R_slice HS2.out.used
  simp only at hus
  subst hus
  have hb4 := below_alloc (Below.refl w2.heap.size w2) (.cells #[.string x.text, .int .i64 x.pos] 187)
  have hg4 := blk_new w2 (.cells #[.string x.text, .int .i64 x.pos] 187)
  have HB4 := Lib.hid hb4
  generalize w2.alloc (.cells #[.string x.text, .int .i64 x.pos] 187) = W4 at *
  have HS4 := Lib.hid (HS2.out.below hb4)
  have HF4 := Lib.hid (HF2.out.trans (Fo.of_below hb4))
  obtain ⟨y0, y1⟩ := cells2 hg4
  obtain ⟨_, _, _, _, _, _, d6⟩ := HS4.out.cs
  have hg6 := blk_lt HS4.out.cells
  have f6 := blk_frozen HS4.out.cells 6
  simp only at d6 hg6 f6
  have hgB := Lib.hid hg4
  have hneU := Lib.hid (show some w2.heap.size ≠ (Value.slice Au s.used.length cu).ownBlock from fun e => by have := Kd.R_lt HS2.out.used w2.heap.size e.symm; omega)
  have hltB := Lib.hid (blk_lt hg4)
  clear hb4 hg4
  have hne7 : g ≠ w2.heap.size := by have := blk_lt HS2.out.cells; simp only at this; omega
  have hne8 : w2.heap.size ≠ g := fun e => hne7 e.symm
  have hsz4 := Lib.hid (show w0.heap.size ≤ W4.drew.heap.size from Nat.le_trans HW.out.size HF4.out.size)
  have hc1 := Lib.hid (show ∀ k, W4.drew.heap.size ≤ k → (ok k ∧ some k ≠ gv.ownBlock) from fun k hk => ⟨sizeFr (B := 0) HFR.out HF4.out.size k hk, fun e => by have := Kd.R_lt HS4.out.given k e.symm; have : W4.drew.heap.size = W4.heap.size := rfl; omega⟩)
  have hc2 := Lib.hid (Kd.R_drew HS4.out.used)
  have hc3 := Lib.hid (below_drew (Below.refl w0.heap.size W4))
  have hc4 := Lib.hid (show (s.used.length + 1) * 24 ≤ 140737488355328 by have := hbn.2; omega)
  have hc5 := Lib.hid (HS4.out.cells)
  go_region_law ((refine Kd.R_append_step kUse (w0 := W4) (W := W4.drew) w0.heap.size (by rfl) (.tmp 43) (.tmp 45) 112 187 _ 24 (by rfl) Try.underlying112 info187 (by rfl) (by decide) (by omega) (.slice Au s.used.length cu) s.used ⟨x.text, x.pos⟩ [.string x.text, .int .i64 x.pos] (fun k => ok k ∧ some k ≠ gv.ownBlock) (fun _ => False) (by rfl) (by rfl) (kUse_mkM _ _ _ _) (fun _ hk => hk.elim) hc1.out hc2.out hc3.out hsz4.out hc4.out ?_; intro v1 w5 ho hb1 hg hat; have hFg := Fr.grown (B := w0.heap.size) (Ms := []) (T := [187]) hc2.out (by simp) (Nat.le_refl _) hg; have hcell := hFg.blk hc5.out (by decide) (by simp); obtain ⟨z0, z1⟩ := cells2 ((hg.block _ hltB.out hneU.out).trans hgB.out); have d6' : w5.cell? ⟨g, 6, none⟩ = some (.slice Au s.used.length cu) := (blk_cell hcell 6).trans rfl; have f6' : w5.frozen? ⟨g, 6, none⟩ = false := blk_frozen hcell 6; have hgl6 := blk_lt hcell; obtain ⟨A5, c5, hv5⟩ := Kd.R_slice ho; subst hv5; have HO5 := Lib.hid ho; have HG5 := Lib.hid hg; have HAT5 := Lib.hid hat; have HC5 := Lib.hid hcell; have HFG := Lib.hid hFg; have HFO := Lib.hid (Fo.grown (ok := ok) (B := w0.heap.size) (g := g) hc2.out (by decide) (Nat.le_refl _) (fun _ hk => hk.1) hg); clear ho hb1 hg hat hFg hcell))
  all_goals
    have hQc : (w5.setCell ⟨g, 6, none⟩ (.slice A5 (s.used.length + 1) c5)).heap[g]? = _ := (blk_set HC5.out 6 _).trans rfl
    have hlen5 : (s.used ++ [(⟨x.text, x.pos⟩ : Use)]).length = s.used.length + 1 := by simp
    have hFQ : Fo ok w0.heap.size g W4 (w5.setCell ⟨g, 6, none⟩ (.slice A5 (s.used.length + 1) c5)) := ((Fo.of_below (below_drew (Below.refl _ _))).trans HFO.out).trans (Fo.set HC5.out HS4.out.g0)
    have hRQ : RSt w0.heap.size ok (.slice (some ad) toks.length c) en (w5.setCell ⟨g, 6, none⟩ (.slice A5 (s.used.length + 1) c5)) ⟨g, rv, nv, gv, .slice A5 (s.used.length + 1) c5⟩ { stepS s with used := s.used ++ [⟨x.text, x.pos⟩] } :=
      ⟨hQc, Kd.R_set (HFG.out.R (Kd.R_drew HS4.out.rules) (by decide) (by simp)) HC5.out (by decide) 6 _, Kd.R_set (HFG.out.R (Kd.R_drew HS4.out.nodes) (by decide) (by simp)) HC5.out (by decide) 6 _,
        Kd.R_set (Kd.R_after (Kd.R_drew HS4.out.given) HG5.out (by simpa using HAT5.out)) HC5.out (by decide) 6 _, Kd.R_set (by simpa using HO5.out) HC5.out (by decide) 6 _, HS4.out.g0⟩
    have zz0 : (w5.setCell ⟨g, 6, none⟩ (.slice A5 (s.used.length + 1) c5)).cell? ⟨w2.heap.size, 0, none⟩ = some (.string x.text) := by rw [World.cell?_setCell_far _ _ _ _ (by simpa using hne7)]; exact z0
    have HRQ := Lib.hid hRQ
    have HFQ := Lib.hid (HF4.out.trans hFQ)
    have hgQ := blk_lt hQc
    clear hRQ hFQ hQc z0 z1 d6' f6' hgl6 hlen5 d6 f6
    generalize (w5.setCell ⟨g, 6, none⟩ (.slice A5 (s.used.length + 1) c5)) = Q at *
    go_wp2_with fail
    refine (rnode_any w0.heap.size ok (fun _ => False) _ en Q ⟨g, rv, nv, gv, .slice A5 (s.used.length + 1) c5⟩ { stepS s with used := s.used ++ [⟨x.text, x.pos⟩] } ⟨6, x.text, []⟩ (.slice none 0 0) HRQ.out (Kd.R_nil _ _ _ _ _) (fun _ h => h.elim) (sizeFr (B := 0) HFR.out HFQ.out.size) (Nat.le_trans HW.out.size HFQ.out.size) hbn.1).mono ?_
    rintro e w6 ⟨rfl, nv6, hS6, hF6⟩
    have HS6 := Lib.hid hS6
    have HF6 := Lib.hid (HFQ.out.trans hF6)
    clear hS6 hF6
    go_wp2_with fail
    go_ret
    rw [HQ.out]
    exact ⟨rfl, _, rfl, HS6.out, HF6.out⟩
end Go.Proofs.Ytoiejgmfgcdniaa
namespace Go.Proofs.Ytoiejgmfgcdniaa
open Go.RowKit Go.Proofs.YtoiejgmfgcdniaaW.PrintWords

/-! ### atom, whole; item -/
def Kinds (toks : List Tok) : Prop := ∀ t ∈ toks, t.kind = 1 ∨ t.kind = 2 ∨ t.kind = 3
theorem atom_any (w0 : World) (A : Option Addr) (c : Nat) (toks : List Tok) (en : Int) (f : Nat) (alt : RdS → RP) (halt : AltSaid w0 A c toks en f alt) (hmono : Mono toks alt) (ht : Kd.C kTok w0 A toks.length toks) (hk : Kinds toks)
    (ok : Nat → Prop) (w : World) (m : RdM) (s : RdS) (hw : Below w0.heap.size w0 w) (h : RSt w0.heap.size ok (.slice A toks.length c) en w m s) (hfr : ∀ k, w.heap.size ≤ k → ok k) (hf : toks.length < f + 1 + s.pos) (hb : bud toks s ≤ 1000000)
    (hbg : beginsB toks s.pos = true) :
    Calls Try.prog 200 #[.pointer (some ⟨m.g, 0, none⟩)] w (RPPost w0.heap.size ok (.slice A toks.length c) en w m.g (atomW toks en alt s)) := by
  cases hm : isMark toks s.pos (mkB 40)
  · have hlt := beginsB_lt hbg
    obtain ⟨x, hx⟩ : ∃ x, toks[s.pos]? = some x := ⟨_, List.getElem?_eq_getElem hlt⟩
    have hk3 : x.kind ≠ 3 := by
      intro h3
      unfold beginsB at hbg
      rw [hx] at hbg
      have : isMark toks s.pos ⟨#[40]⟩ = false := hm
      simp [h3, this] at hbg
    rcases hk x (List.mem_of_getElem? hx) with h1 | h2 | h3
    · exact atom_name w0 A c toks en alt ht ok w m s hw h hfr hb hm x hx (by omega) h1
    · exact atom_quote w0 A c toks en alt ht ok w m s hw h hfr hb hm x hx h2
    · exact absurd h3 hk3
  · exact atom_open w0 A c toks en f alt halt hmono ht ok w m s hw h hfr hf hb hm
theorem R_one (W : World) (base : Nat) (n : Int) (hb : base ≤ W.heap.size) : (Kd.int .i64).R 3 (W.alloc (.cells #[.int .i64 n] 3)) base (fun k => k = W.heap.size) (.slice (some ⟨W.heap.size, 0, none⟩) 1 1) [n] :=
  Kd.R_of_own (xs := [n]) (own_lit W base 3 .i64 [n] hb (by simp)) (fun k hk => by simpa [Value.ownBlock] using hk.symm)
theorem take_yes {toks : List Tok} {s : RdS} {mark : ByteArray} (h : isMark toks s.pos mark = true) : takeS toks s mark = stepS s := by unfold takeS; rw [if_pos h]; rfl
theorem take_no {toks : List Tok} {s : RdS} {mark : ByteArray} (h : isMark toks s.pos mark = false) : takeS toks s mark = s := by unfold takeS; rw [if_neg (by simp [h])]
set_option maxRecDepth 100000 in
set_option maxHeartbeats 4000000 in
theorem item_any (w0 : World) (A : Option Addr) (c : Nat) (toks : List Tok) (en : Int) (f : Nat) (alt : RdS → RP) (halt : AltSaid w0 A c toks en f alt) (hmono : Mono toks alt) (hth : Thrift toks alt) (ht : Kd.C kTok w0 A toks.length toks) (hk : Kinds toks)
    (ok : Nat → Prop) (w : World) (m : RdM) (s : RdS) (hw : Below w0.heap.size w0 w) (h : RSt w0.heap.size ok (.slice A toks.length c) en w m s) (hfr : ∀ k, w.heap.size ≤ k → ok k) (hf : toks.length < f + 1 + s.pos) (hb : bud toks s ≤ 1000000)
    (hbg : beginsB toks s.pos = true) :
    Calls Try.prog 183 #[.pointer (some ⟨m.g, 0, none⟩)] w (RPPost w0.heap.size ok (.slice A toks.length c) en w m.g (itemW toks en alt s)) := by
  have HA := Lib.hid (atom_any w0 A c toks en f alt halt hmono ht hk ok w m s hw h hfr hf hb hbg)
  have HW := Lib.hid hw
  have HK := Lib.hid ht
  have HFR := Lib.hid hfr
  have hlt := beginsB_lt hbg
  have HI : Hid (itemW toks en alt s = match atomW toks en alt s with
    | .error p => .error p
    | .ok (n, s1) =>
      if isMark toks s1.pos (mkB 42) then .ok (layN (stepS s1) ⟨3, ⟨#[]⟩, [n]⟩)
      else if isMark toks s1.pos (mkB 43) then .ok (layN (stepS s1) ⟨4, ⟨#[]⟩, [n]⟩)
      else if isMark toks s1.pos (mkB 63) then .ok (layN (stepS s1) ⟨5, ⟨#[]⟩, [n]⟩)
      else .ok (n, s1)) := Lib.hid rfl
  have HTH : Hid (∀ n s1, atomW toks en alt s = .ok (n, s1) → bud toks s1 + 2 ≤ bud toks s) := Lib.hid (fun n s1 e => atomW_thrift hmono hth hlt e)
  clear h hw ht halt hfr hk hmono hth hbg
  generalize itemW toks en alt s = res at HI ⊢
  generalize atomW toks en alt s = ra at HI HA HTH
  obtain ⟨g, rv, nv, gv, uv⟩ := m
  go_enter Try.func183, Try.ntmps183
  go_wp2_with fail
  refine HA.out.mono ?_
  intro e w1 hp
  cases ra with
  | error p =>
    obtain ⟨he, hF⟩ := hp
    unfold Wrong at he
    subst he
    have HF := Lib.hid hF
    clear hF
    go_wp2_with fail
    refine ⟨rfl, ?_⟩
    rw [HI.out]
    exact ⟨rfl, HF.out⟩
  | ok r =>
    obtain ⟨n, s1⟩ := r
    obtain ⟨rfl, ⟨g1, rv1, nv1, gv1, uv1⟩, hg1, hS1, hF1⟩ := hp
    simp only at hg1
    subst hg1
    have hb1 := HTH.out n s1 rfl
    have hbn : s1.nodes.length ≤ 1000000 := by unfold bud at hb1 hb; omega
    have HS1 := Lib.hid hS1
    have HF1 := Lib.hid hF1
    clear hS1 hF1
    simp only at HI
    have key : ∀ (w2 : World) (kd : Int), RSt w0.heap.size ok (.slice A toks.length c) en w2 ⟨g1, rv1, nv1, gv1, uv1⟩ (stepS s1) → Fo ok w0.heap.size g1 w w2 →
        Calls Try.prog 201 #[.pointer (some ⟨g1, 0, none⟩), .int .i64 kd, .string ⟨#[]⟩, .slice (some ⟨w2.heap.size, 0, none⟩) 1 1] (w2.alloc (.cells #[.int .i64 n] 3)) fun e w' => e = .returned (.int .i64 s1.nodes.length) ∧ ∃ m, m.g = g1 ∧ RSt w0.heap.size ok (.slice A toks.length c) en w' m (layN (stepS s1) ⟨kd, ⟨#[]⟩, [n]⟩).2 ∧ Fo ok w0.heap.size g1 w w' := by
      intro w2 kd hS2 hF2
      have hbl := below_alloc (Below.refl w2.heap.size w2) (.cells #[.int .i64 n] 3)
      have hle : w0.heap.size ≤ w2.heap.size := Nat.le_trans HW.out.size hF2.size
      refine (rnode_any w0.heap.size ok (fun k => k = w2.heap.size) _ en (w2.alloc (.cells #[.int .i64 n] 3)) ⟨g1, rv1, nv1, gv1, uv1⟩ (stepS s1) ⟨kd, ⟨#[]⟩, [n]⟩ _ (hS2.below hbl) (R_one w2 w0.heap.size n hle) (fun k e => HFR.out k (by subst e; exact hF2.size)) (sizeFr (B := 0) HFR.out (Nat.le_trans hF2.size hbl.size)) (Nat.le_trans hle hbl.size) hbn).mono ?_
      rintro e w3 ⟨rfl, nv3, hS3, hF3⟩
      exact ⟨rfl, _, rfl, hS3, (hF2.trans (Fo.of_below hbl)).trans hF3⟩
    have HKEY := Lib.hid key
    clear key
    have HTAKE : Hid (∀ (w2 : World) (mark : ByteArray), RSt w0.heap.size ok (.slice A toks.length c) en w2 ⟨g1, rv1, nv1, gv1, uv1⟩ s1 → Fo ok w0.heap.size g1 w w2 →
        Calls Try.prog 181 #[.pointer (some ⟨g1, 0, none⟩), .string mark] w2 fun e w' => e = .returned (.bool (isMark toks s1.pos mark)) ∧ RSt w0.heap.size ok (.slice A toks.length c) en w' ⟨g1, rv1, nv1, gv1, uv1⟩ (takeS toks s1 mark) ∧ Fo ok w0.heap.size g1 w w') := Lib.hid (by
      intro w2 mark hS2 hF2
      refine (take_any w0.heap.size ok A c toks en w2 ⟨g1, rv1, nv1, gv1, uv1⟩ s1 mark hS2 (Kd.C_below HK.out (HW.out.trans (hF2.toBelow HW.out.size)))).mono ?_
      rintro e w3 ⟨rfl, hS3, hF3⟩
      exact ⟨rfl, hS3, hF2.trans hF3⟩)
    go_wp2_with fail
    refine (HTAKE.out w1 (mkB 42) HS1.out HF1.out).mono ?_
    rintro e w2 ⟨rfl, hS2, hF2⟩
    cases h42 : isMark toks s1.pos (mkB 42)
    · rw [take_no h42] at hS2
      rw [h42] at HI
      have HS2 := Lib.hid hS2
      have HF2 := Lib.hid hF2
      clear hS2 hF2 h42
      go_wp2_with fail
      refine (HTAKE.out w2 (mkB 43) HS2.out HF2.out).mono ?_
      rintro e w3 ⟨rfl, hS3, hF3⟩
      cases h43 : isMark toks s1.pos (mkB 43)
      · rw [take_no h43] at hS3
        rw [h43] at HI
        have HS3 := Lib.hid hS3
        have HF3 := Lib.hid hF3
        clear hS3 hF3 h43
        go_wp2_with fail
        refine (HTAKE.out w3 (mkB 63) HS3.out HF3.out).mono ?_
        rintro e w4 ⟨rfl, hS4, hF4⟩
        cases h63 : isMark toks s1.pos (mkB 63)
        · rw [take_no h63] at hS4
          rw [h63] at HI
          have HS4 := Lib.hid hS4
          have HF4 := Lib.hid hF4
          clear hS4 hF4 h63
          go_wp2_with fail
          go_ret
          rw [HI.out]
          exact ⟨rfl, _, rfl, HS4.out, HF4.out⟩
        · rw [take_yes h63] at hS4
          rw [h63] at HI
          have HC := Lib.hid (HKEY.out w4 5 hS4 hF4)
          clear hS4 hF4 h63
          go_wp2_with fail
          refine HC.out.mono ?_
          rintro e w5 ⟨rfl, hR⟩
          have HR := Lib.hid hR
          clear hR
          go_wp2_with fail
          go_ret
          rw [HI.out]
          exact ⟨rfl, HR.out⟩
      · rw [take_yes h43] at hS3
        rw [h43] at HI
        have HC := Lib.hid (HKEY.out w3 4 hS3 hF3)
        clear hS3 hF3 h43
        go_wp2_with fail
        refine HC.out.mono ?_
        rintro e w5 ⟨rfl, hR⟩
        have HR := Lib.hid hR
        clear hR
        go_wp2_with fail
        go_ret
        rw [HI.out]
        exact ⟨rfl, HR.out⟩
    · rw [take_yes h42] at hS2
      rw [h42] at HI
      have HC := Lib.hid (HKEY.out w2 3 hS2 hF2)
      clear hS2 hF2 h42
      go_wp2_with fail
      refine HC.out.mono ?_
      rintro e w5 ⟨rfl, hR⟩
      have HR := Lib.hid hR
      clear hR
      go_wp2_with fail
      go_ret
      rw [HI.out]
      exact ⟨rfl, HR.out⟩
end Go.Proofs.Ytoiejgmfgcdniaa
