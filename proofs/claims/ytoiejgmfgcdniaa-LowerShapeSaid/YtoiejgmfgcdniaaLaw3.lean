import Derived.Test.YtoiejgmfgcdniaaLaw2
set_option linter.unusedVariables false
set_option linter.unusedSimpArgs false
namespace Go.Proofs.Ytoiejgmfgcdniaa
open Go.RowKit Go.Proofs.YtoiejgmfgcdniaaW.PrintWords

/-! ### LowerShape: the long way -/
structure GramFacts (g : Gram) : Prop where
  terms : 0 ≤ g.terms ∧ g.terms ≤ 16
  nons : 1 ≤ g.nons ∧ g.nons ≤ 24
  len : g.prods.length ≤ 60
  prods : ∀ p, p ∈ g.prods → p.right.length ≤ 8 ∧ (0 ≤ p.left ∧ p.left < g.nons) ∧ ∀ s, s ∈ p.right → 0 ≤ s.n ∧ (s.non = false → s.n < g.terms) ∧ (s.non = true → s.n < g.nons)
theorem gram_facts {g : Gram} (h : g.right = true) : GramFacts g := by
  unfold Gram.right at h
  simp only [Bool.and_eq_true, Bool.not_eq_true', Bool.or_eq_false_iff, decide_eq_false_iff_not, List.any_eq_false] at h
  obtain ⟨⟨⟨⟨⟨⟨⟨h1, h2⟩, h3⟩, h4⟩, h5⟩, h6⟩, h7⟩, h8⟩ := h
  refine ⟨by omega, by omega, by omega, fun p hp => ?_⟩
  have hfit : fitsB g.terms g.nons p = true := by simpa using h8 p hp
  unfold fitsB at hfit
  simp only [Bool.and_eq_true, decide_eq_true_eq, Bool.not_eq_true', List.any_eq_false] at hfit
  obtain ⟨⟨ha, hb⟩, hc⟩ := hfit
  unfold thereB at ha
  simp only [Bool.and_eq_true, decide_eq_true_eq, if_true] at ha
  refine ⟨hb, ha, fun s hs => ?_⟩
  have hs1 : thereB g.terms g.nons s.non s.n = true := by simpa using hc s hs
  unfold thereB at hs1
  simp only [Bool.and_eq_true, decide_eq_true_eq] at hs1
  refine ⟨hs1.1, fun e => ?_, fun e => ?_⟩
  · have := hs1.2; rw [e] at this; simpa using this
  · have := hs1.2; rw [e] at this; simpa using this
theorem ofL_pos (non : Int) : ∀ (ps : List Prod) (i : Nat), (∃ p, p ∈ ps ∧ p.left = non) → 0 < (ofL non i ps).length := by
  intro ps
  induction ps with
  | nil => intro i ⟨p, hp, _⟩; simp at hp
  | cons p ps ih =>
    intro i ⟨p', hp', hl⟩
    unfold ofL
    split
    · simp
    · rename_i hne
      rcases List.mem_cons.1 hp' with rfl | hp'
      · exact absurd hl hne
      · exact ih _ ⟨p', hp', hl⟩
def Pos (us : List Int) (s : Sym) : Prop := s.non = false → ∃ x, us[s.n.toNat]? = some x ∧ 0 < x
theorem Pos.set {us : List Int} {s : Sym} (h : Pos us s) {i : Nat} {x : Int} (hx : us[i]? = some x) (h0 : 0 ≤ x) : Pos (us.set i (x + 1)) s := by
  intro hn
  obtain ⟨y, hy, hy0⟩ := h hn
  by_cases e : i = s.n.toNat
  · subst e
    exact ⟨x + 1, by rw [List.getElem?_set_self (List.getElem?_eq_some_iff.1 hx).1], by omega⟩
  · exact ⟨y, by rw [List.getElem?_set_ne e]; exact hy, hy0⟩
theorem form_of {α : Type} {d : Kd α} {e base b : Nat} {w : World} {ok : Nat → Prop} {v : Value} {xs : List α} (h : d.R e w base ok v xs) (hb : v.ownBlock = some b) : ∃ cap, v = .slice (some ⟨b, 0, none⟩) xs.length cap := by
  obtain ⟨inner, ho⟩ := Kd.R_own h
  obtain ⟨_, ⟨rfl, _⟩ | ⟨g, cap, cur, rfl, _⟩⟩ := ho
  · simp [Value.ownBlock] at hb
  · simp only [Value.ownBlock, Option.some.injEq] at hb
    subst hb
    exact ⟨cap, rfl⟩
set_option maxRecDepth 100000 in
set_option maxHeartbeats 4000000 in
theorem shape_fine (t : Tree) (A0 : Option Addr) (c0 : Nat) (A1 : Option Addr) (c1 : Nat) (w : World) (haw : AwakeSaid 13) (ht : TreeRow w t A0 c0 A1 c1) (h : largeB t = false) (g : Gram) (l : List ByteArray) (hlow : lowerP t = (g, l, 0))
    (hgr : g.right = true) (hst : g.start = 0) (htm : g.terms = l.length) (hnn : (t.rules.length : Int) ≤ g.nons) (hrn : t.rules.length ≤ 1000) (hsf : ShapeFacts g.nons g.prods l) :
    Calls Try.prog 3 #[.agg #[.slice A0 t.rules.length c0, .slice A1 t.nodes.length c1]] w (TrueBelow w) := by
  have HT := Lib.hid ht
  have HL := Lib.hid h
  have HA := Lib.hid haw
  have HW := Lib.hid hlow
  have HGR := Lib.hid hgr
  have HSF := Lib.hid hsf
  have hgf := gram_facts hgr
  obtain ⟨tm, nn, st, ps⟩ := g
  simp only at hst htm hnn hsf
  subst hst htm
  obtain ⟨⟨_, ht1⟩, ⟨hn0, hn1⟩, hpl, _⟩ := hgf
  simp only at ht1 hn0 hn1 hpl
  have HGF := Lib.hid (gram_facts hgr)
  clear ht h haw hlow hgr hsf
  go_enter Try.func3, Try.ntmps3
  go_wp2_with fail
  refine (HA.out _).mono ?_
  rintro e w1 ⟨rfl, hb1⟩
  obtain ⟨hg1, hb2, _⟩ := bel1 hb1
  have HB1 := Lib.hid hb2
  have HG1 := Lib.hid hg1
  obtain ⟨e0, e1⟩ := cells2 hg1
  clear hb1 hb2 hg1
  go_wp2_with fail
  refine (large_any t A0 c0 A1 c1 w1 (HT.out.below HB1.out).r0 (HT.out.below HB1.out).r1).mono ?_
  rintro e w2 ⟨rfl, hb2⟩
  rw [HL.out]
  have HB2 := Lib.hid (blw HB1.out hb2)
  have HG2 := Lib.hid (blk_below HG1.out hb2)
  clear hb2 e0 e1
  obtain ⟨e0, e1⟩ := cells2 HG2.out
  go_wp2_with fail
  refine (lower_any t A0 c0 A1 c1 w2 (HT.out.below HB2.out)).mono ?_
  intro e w3 hp
  rw [HW.out] at hp
  obtain ⟨Ap, cp, Av, cv, rfl, hcp, hPr, hNm, hcv, hb3⟩ := hp.open_
  have HB3 := Lib.hid (blw HB2.out hb3)
  have HG3 := Lib.hid (blk_below HG2.out hb3)
  have HPR := Lib.hid hPr
  have HNM := Lib.hid hNm
  have HB2s := Lib.hid (blk_lt HG3.out)
  simp only at hcp hPr
  clear hp hb3 e0 e1 hPr hNm
  obtain ⟨e0, e1⟩ := cells2 HG3.out
  have q0 := cell1 e0
  have q1 := cell1 e1
  go_wp2_with fail
  clear q0 q1
  have HBN := Lib.hid (below_alloc (Below.refl w3.heap.size w3) (.cells #[.int .i64 l.length, .int .i64 nn, .int .i64 0, .slice Ap ps.length cp] 30))
  have HGN := Lib.hid (blk_new w3 (.cells #[.int .i64 l.length, .int .i64 nn, .int .i64 0, .slice Ap ps.length cp] 30))
  refine (gRight_any ⟨(l.length : Int), nn, 0, ps⟩ Ap cp _ hcp (Kd.C_below HPR.out HBN.out)).mono ?_
  rintro e w4 ⟨rfl, hb4⟩
  rw [HGR.out]
  have HB4 := Lib.hid (blw HBN.out hb4)
  have HG4 := Lib.hid (blk_below HGN.out hb4)
  have HT4 := Lib.hid (blk_below HG3.out HB4.out)
  obtain ⟨i0, i1, i2, i3⟩ := cells4 HG4.out
  obtain ⟨j0, j1⟩ := cells2 HT4.out
  have h34 := Lib.hid HB4.out.size
  clear hb4 e0 e1
  have b1 : ((l.length : Int) != (l.length : Int)) = false := by simp
  go_wp2_with (at_make; refine Kd.R_make (Kd.int .i64) (w0 := w3) w3.heap.size 3 rfl rfl 36 (.tmp 69) (.tmp 69) rfl (l.length : Int) rfl rfl Try.underlying36 (.int .i64 0) 8 info3 rfl (by decide) (by decide) (0 : Int) (ok := fun _ => True) (okp := fun _ => False) rfl (fun _ h => h.elim) trivial (by omega) (by omega) HB4.out h34.out ?_; intro v1 w5 ho hb1 hg hat; have hF5 : Fr w3.heap.size [] [] w4 w5 := ⟨hg.os, hg.tape, hg.output, hg.size, fun k hk _ => hg.block k hk (by simp)⟩; obtain ⟨ub, hbo, hble⟩ := hat; obtain ⟨uc, huc⟩ := form_of ho hbo; rw [List.length_replicate, Int.toNat_natCast] at huc; subst huc; have HO := Lib.hid ho; have HB5 := Lib.hid hb1; have HF5 := Lib.hid hF5; have HBL := Lib.hid hble; have HG5 := Lib.hid (hF5.blk HG4.out (by simp) (by simp)); clear ho hb1 hg hbo hble hF5 i0 i1 i2 i3 j0 j1; obtain ⟨i0, i1, i2, i3⟩ := cells4 HG5.out)
  clear i0 i1 i2 i3
  have hu0 : Hid (Kd.R (Kd.int .i64) 3 w5 w3.heap.size (fun _ => True) (.slice (some ⟨ub, 0, none⟩) l.length uc) (List.replicate l.length 0)) := by have := HO; rwa [Int.toNat_natCast] at this
  clear HO
  go_loopw [7, 74] (fun v i wr => ∃ (k : Nat) (last : Int) (us : List Int), k ≤ ps.length ∧ i = .int .i64 k ∧ v = .int .i64 last ∧ (0 ≤ last ∧ last ≤ 24) ∧ Hid (stepsGo last (ps.drop k) = some (nn - 1)) ∧ us.length = l.length ∧
    Hid (Kd.R (Kd.int .i64) 3 wr w3.heap.size (fun _ => True) (.slice (some ⟨ub, 0, none⟩) l.length uc) us) ∧ Hid (∀ (i : Nat) (x : Int), us[i]? = some x → 0 ≤ x ∧ x ≤ k * 8) ∧ Hid (∀ p, p ∈ ps.take k → ∀ s, s ∈ p.right → Pos us s) ∧ Hid (Fr w3.heap.size [] [3] w5 wr)) (fun _ i _ => ps.length - (intOf i).toNat)
  case atStart => exact ⟨0, 0, List.replicate l.length 0, Nat.zero_le _, rfl, rfl, by omega, Lib.hid HSF.out.steps, by simp, hu0, Lib.hid (fun i x hx => by rw [List.getElem?_replicate] at hx; split at hx <;> simp_all; omega), Lib.hid (by simp), Lib.hid (Fr.refl _ _ _ _)⟩
  case round =>
    clear hu0
    obtain ⟨k, last, us, hk, rfl, rfl, ⟨hl0, hl1⟩, HST, hul, HU, HX, HP, HF⟩ := hrel
    have HB := Lib.hid (HB5.out.trans (HF.out.toBelow HB5.out.size))
    have HG := Lib.hid (HF.out.blk HG5.out (by decide) (by simp))
    obtain ⟨wo, rfl⟩ : ∃ wo : World, wo = wr := ⟨_, rfl⟩
    by_cases hlt : k < ps.length
    · obtain ⟨ad, x, A2, c2, had, hx, e0', e1', l2, k2⟩ := at_Prod HPR.out k hlt
      have e0 := pw_cell_below HB.out e0'
      have e1 := pw_cell_below HB.out e1'
      subst had
      have HXK := Lib.hid hx
      have HTK := Lib.hid (take_of hx)
      have hgx := HGF.out.prods x (List.mem_of_getElem? hx)
      have HGX := Lib.hid hgx
      have hx8 := hgx.1
      have hlx := hgx.2.1
      simp only at hlx
      have K2 := Lib.hid k2
      have hst := HST.out
      rw [drop_of hx, stepsGo] at hst
      have n1 : ¬ x.left < last := fun hc => by rw [if_pos (.inl hc)] at hst; cases hst
      have n2 : ¬ last + 1 < x.left := fun hc => by rw [if_pos (.inr hc)] at hst; cases hst
      rw [if_neg (by omega)] at hst
      have HST2 := Lib.hid hst
      clear e0' e1' hx k2 hgx hst HST
      have hb2 := below_alloc (Below.refl wo.heap.size wo) (.cells #[.int .i64 x.left, .slice A2 x.right.length c2] 39)
      have HB2' := Lib.hid hb2
      clear hb2
      obtain ⟨i0, i1, i2, i3⟩ := cells4 HG.out
      go_wp2_with fail
      clear e0 e1 i0 i1 i2 i3
      have hb2 := HB2'.out
      generalize wo.alloc (.cells #[.int .i64 x.left, .slice A2 x.right.length c2] 39) = W2 at *
      have HU2 := Lib.hid (Kd.R_below HU.out hb2)
      have HF2 := Lib.hid (HF.out.trans (Fr.of_below hb2))
      clear hb2
      go_loopw [94] (fun i wr => ∃ (q : Nat) (us : List Int), q ≤ x.right.length ∧ i = .int .i64 q ∧ us.length = l.length ∧
        Hid (Kd.R (Kd.int .i64) 3 wr w3.heap.size (fun _ => True) (.slice (some ⟨ub, 0, none⟩) l.length uc) us) ∧ Hid (∀ (i : Nat) (y : Int), us[i]? = some y → 0 ≤ y ∧ y ≤ k * 8 + q) ∧ Hid (∀ p, p ∈ ps.take k → ∀ s, s ∈ p.right → Pos us s) ∧ Hid (∀ s, s ∈ x.right.take q → Pos us s) ∧ Hid (Fr w3.heap.size [] [3] w5 wr)) (fun i _ => x.right.length - (intOf i).toNat)
      case atStart => exact ⟨0, us, Nat.zero_le _, rfl, hul, HU2, Lib.hid (fun i y hy => by have := HX.out i y hy; omega), HP, Lib.hid (by simp), HF2⟩
      case round =>
        clear HU2 HX HP HF2 hul
        obtain ⟨q, us, hq, rfl, hul, HU, HX, HP, HQ, HF⟩ := hrel
        have HB := Lib.hid (HB5.out.trans (HF.out.toBelow HB5.out.size))
        by_cases hlq : q < x.right.length
        · obtain ⟨a3, s, rfl, hs, f0', f1'⟩ := at_Sym (Kd.C_below K2.out HB.out) q hlq
          have HTQ := Lib.hid (take_of hs)
          have hgs := HGX.out.2.2 s (List.mem_of_getElem? hs)
          clear hs
          obtain ⟨nb, sn⟩ := s
          obtain ⟨g0, g1, g2⟩ := hgs
          simp only at g0 g1 g2 f0' f1'
          cases nb
          · have g1 := g1 rfl
            obtain ⟨m, rfl⟩ : ∃ m : Nat, sn = m := ⟨sn.toNat, by omega⟩
            have hm : m < l.length := by omega
            obtain ⟨y, hy⟩ : ∃ y, us[m]? = some y := ⟨_, List.getElem?_eq_getElem (by omega)⟩
            have hyr := HX.out m y hy
            have HY := Lib.hid hy
            have hc := Kd.R_celln (0 : Int) (Kd.R_alloc HU.out (.cells #[.bool false, .int .i64 m] 41)) (m : Int) (by omega) (by omega)
            rw [Int.toNat_natCast] at hc
            have hrd : rdOf (0 : Int) us (m : Int) = y := by unfold rdOf; rw [Int.toNat_natCast, List.getD_eq_getElem?_getD, hy]; rfl
            rw [hrd] at hc
            have hub : ub < wr.heap.size := Kd.R_lt HU.out ub rfl
            have HC := Lib.hid hc
            have HYR := Lib.hid hyr
            clear hc hrd hy
            go_upto_region 22 with (fail)
            clear f0' f1'
            have hb3 := below_alloc (Below.refl wr.heap.size wr) (.cells #[.bool false, .int .i64 m] 41)
            have HU3 := Lib.hid (Kd.R_below HU.out hb3)
            have HF3 := Lib.hid (HF.out.trans (Fr.of_below hb3))
            have hg1 := (cells2 (blk_new wr (.cells #[.bool false, .int .i64 m] 41))).2
            have hub3 : ub < (wr.alloc (.cells #[.bool false, .int .i64 m] 41)).heap.size := by rw [size_alloc]; omega
            obtain ⟨hc1, hc2⟩ := HC.out
            clear hb3 HC HU HF
            generalize wr.alloc (.cells #[.bool false, .int .i64 m] 41) = W3 at *
            go_wp2_with fail
            go_roundw
            case rel =>
              have hput := Kd.R_putg HU3.out (m : Int) (y + 1)
              rw [Int.toNat_natCast] at hput
              obtain ⟨cells, hcl⟩ := Kd.R_typed HU3.out ub rfl
              have hub0 := Kd.R_base HU3.out ub rfl
              refine ⟨q + 1, us.set m (y + 1), by omega, by go_num, by rw [List.length_set]; exact hul, Lib.hid hput.1, Lib.hid (fun i z hz => ?_), Lib.hid (fun p hp s hs => (HP.out p hp s hs).set HY.out HYR.out.1), Lib.hid (fun s hs => ?_), Lib.hid (HF3.out.trans (Fr.set hcl (by simp) hub0))⟩
              · by_cases e : m = i
                · subst e
                  rw [List.getElem?_set_self (by omega)] at hz
                  have := HYR.out
                  injection hz with hz
                  omega
                · rw [List.getElem?_set_ne e] at hz
                  have := HX.out i z hz
                  omega
              · rw [HTQ.out, List.mem_append, List.mem_singleton] at hs
                rcases hs with hs | rfl
                · exact (HQ.out s hs).set HY.out HYR.out.1
                · intro _
                  exact ⟨y + 1, by show (us.set m (y + 1))[(m : Int).toNat]? = _; rw [Int.toNat_natCast, List.getElem?_set_self (by omega)], by have := HYR.out; omega⟩
            case measure => simp [intOf]; omega
          · go_wp2_with fail
            go_roundw
            case rel => exact ⟨q + 1, us, by omega, by go_num, hul, Lib.hid (Kd.R_alloc HU.out _), Lib.hid (fun i y hy => by have := HX.out i y hy; omega), HP, Lib.hid (fun s hs => by
                rw [HTQ.out, List.mem_append, List.mem_singleton] at hs
                rcases hs with hs | rfl
                · exact HQ.out s hs
                · intro h; cases h), Lib.hid (HF.out.trans (Fr.of_below (below_alloc (Below.refl _ _) _)))⟩
            case measure => simp [intOf]; omega
        · have HE : Hid (x.right.take q = x.right) := Lib.hid (List.take_of_length_le (by omega))
          go_wp2_with fail
          go_roundw
          case rel => exact ⟨k + 1, x.left, us, by omega, by go_num, rfl, by omega, HST2, hul, HU, Lib.hid (fun i y hy => by have := HX.out i y hy; omega), Lib.hid (fun p hp => by
              rw [HTK.out, List.mem_append, List.mem_singleton] at hp
              rcases hp with hp | rfl
              · exact HP.out p hp
              · have := HQ.out; rwa [HE.out] at this), HF⟩
          case measure => simp [intOf]; omega
    · have hlast : last = nn - 1 := by have := HST.out; rw [List.drop_eq_nil_of_le (by omega), stepsGo] at this; injection this
      have hused : Hid (∀ i : Nat, i < l.length → ∃ y, us[i]? = some y ∧ 0 < y) := Lib.hid (fun i hi => by
        obtain ⟨p, s, hp, hs, hn, hsi⟩ := HSF.out.used i hi
        obtain ⟨y, hy, hy0⟩ := HP.out p (by rw [List.take_of_length_le (by omega)]; exact hp) s hs hn
        rw [hsi, Int.toNat_natCast] at hy
        exact ⟨y, hy, hy0⟩)
      obtain ⟨i0, i1, i2, i3⟩ := cells4 HG.out
      go_wp2_with fail
      clear i0 i1 i2 i3
      go_loopw [112] (fun i wr => ∃ k : Nat, k ≤ l.length ∧ i = .int .i64 k ∧ Hid (Below wo.heap.size wo wr)) (fun i _ => l.length - (intOf i).toNat)
      case atStart => exact ⟨0, Nat.zero_le _, rfl, Lib.hid (Below.refl _ _)⟩
      case round =>
        obtain ⟨i, hi, rfl, HBI⟩ := hrel
        have HB9 := Lib.hid (blw (Below.refl _ _) ((HB.out.trans (HBI.out.mono HB.out.size))))
        by_cases hil : i < l.length
        · obtain ⟨y, hy, hy0⟩ := hused.out i hil
          have hc := Kd.R_celln (0 : Int) (Kd.R_below HU.out HBI.out) (i : Int) (by omega) (by omega)
          have hrd : rdOf (0 : Int) us (i : Int) = y := by unfold rdOf; rw [Int.toNat_natCast, List.getD_eq_getElem?_getD, hy]; rfl
          rw [Int.toNat_natCast, hrd] at hc
          have hc1 := hc.1
          have by0 : (y == 0) = false := beq_eq_false_iff_ne.2 (by omega)
          obtain ⟨w6, rfl⟩ : ∃ w6 : World, w6 = wr := ⟨_, rfl⟩
          clear hc hrd hy hy0
          go_wp2_with fail
          clear hc1
          go_loopw [123] (fun j wr => ∃ m : Nat, m ≤ i ∧ j = .int .i64 m ∧ Hid (Below wo.heap.size wo wr)) (fun j _ => i - (intOf j).toNat)
          case atStart => exact ⟨0, Nat.zero_le _, rfl, HBI⟩
          case round =>
            obtain ⟨m, hm, rfl, HBJ⟩ := hrel
            have HB10 := Lib.hid ((HB.out.trans (HBJ.out.mono HB.out.size)))
            by_cases hmi : m < i
            · obtain ⟨a4, y1, rfl, hy1, e1⟩ := at_string (Kd.C_below HNM.out HB10.out) m (by omega)
              obtain ⟨a5, y2, ha5, hy2, e2⟩ := at_string (Kd.C_below HNM.out HB10.out) i (by omega)
              obtain rfl : a4 = a5 := Option.some.inj ha5
              have hne : y1 ≠ y2 := by
                rintro rfl
                obtain ⟨h1, e3⟩ := List.getElem?_eq_some_iff.1 hy1
                obtain ⟨h2, e4⟩ := List.getElem?_eq_some_iff.1 hy2
                exact List.pairwise_iff_getElem.1 HSF.out.nodup m i h1 h2 hmi (e3.trans e4.symm)
              have hstr : (y1.toList == y2.toList) = false := by rw [str_eq]; exact decide_eq_false hne
              clear ha5 hy1 hy2 hne
              go_wp2_with fail
              go_roundw
              case rel => exact ⟨m + 1, by omega, by go_num, HBJ⟩
              case measure => simp [intOf]; omega
            · go_wp2_with fail
              go_roundw
              case rel => exact ⟨i + 1, by omega, by go_num, HBJ⟩
              case measure => simp [intOf]; omega
        · obtain ⟨i0, i1, i2, i3⟩ := cells4 (blk_below HG.out HBI.out)
          have HPR2 := Lib.hid (Kd.C_below HPR.out HB9.out)
          subst hlast
          have bl : (nn - 1 == nn - 1) = true := by simp
          go_wp2_with fail
          refine (of_any ⟨(l.length : Int), nn, 0, ps⟩ Ap cp 0 wr HPR2.out (by simp only; omega)).mono ?_
          rintro e w7 ⟨v, rfl, hv, hb7⟩
          obtain ⟨Ao, co, rfl, _⟩ := Kd.R_reads hv
          have hpos := ofL_pos 0 ps 0 HSF.out.first
          have hol := ofL_len 0 ps 0
          generalize (ofL 0 0 ps).length = no at *
          have HB11 := Lib.hid (blw HB3.out ((HB9.out.trans (hb7.mono HB9.out.size))))
          clear hv hb7 i0 i1 i2 i3
          go_wp2_with fail
          go_ret
          exact ⟨rfl, HB11.out⟩
end Go.Proofs.Ytoiejgmfgcdniaa
