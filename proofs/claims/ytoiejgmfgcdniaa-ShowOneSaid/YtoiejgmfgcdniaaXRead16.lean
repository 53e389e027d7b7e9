import Derived.Test.YtoiejgmfgcdniaaXRead14
set_option linter.unusedVariables false
set_option linter.unusedSimpArgs false
namespace Go.Proofs.Ytoiejgmfgcdniaa
open Go.RowKit Go.Proofs.YtoiejgmfgcdniaaW.PrintWords

/-! ### alternatives -/
theorem info3r : (Try.prog.info? 3).map (fun i => (i.zero, i.size, i.bytes)) = some (some (.int .i64 0), 1, 8) := by kernel_rfl
section
variable {B : Nat} {ok ok' : Nat → Prop} {tv : Value} {en : Int} {w w1 : World} {m : RdM} {s : RdS}
theorem RSt.weak (h : RSt B ok tv en w m s) (hok : ∀ k, ok k → ok' k) : RSt B ok' tv en w m s := ⟨h.cells, Kd.R_mono h.rules hok, Kd.R_mono h.nodes hok, Kd.R_mono h.given (fun k hk => ⟨hok k hk.1, hk.2⟩), Kd.R_mono h.used (fun k hk => ⟨hok k hk.1, hk.2⟩), h.g0⟩
theorem RSt.grown3 {b : Nat} {okv : Nat → Prop} {v v1 : Value} {xs : List Int} (h : RSt B (fun k => ok k ∧ some k ≠ v.ownBlock) tv en w m s) (hR : (Kd.int .i64).R 3 w b okv v xs) (hg : w.grownBy w1 v.ownBlock) (hat : v1.ownBlock = v.ownBlock ∨ ∃ b, v1.ownBlock = some b ∧ w.heap.size ≤ b) :
    RSt B (fun k => ok k ∧ some k ≠ v1.ownBlock) tv en w1 m s :=
  ⟨blk_grown h.cells hg (Kd.R_ne hR h.cells (by decide)), Kd.R_after h.rules hg hat, Kd.R_after h.nodes hg hat,
    Kd.R_mono (Kd.R_after (Kd.R_mono h.given (fun k hk => (⟨⟨hk.1.1, hk.2⟩, hk.1.2⟩ : (ok k ∧ some k ≠ m.uv.ownBlock) ∧ some k ≠ v.ownBlock))) hg hat) (fun k hk => ⟨⟨hk.1.1, hk.2⟩, hk.1.2⟩),
    Kd.R_mono (Kd.R_after (Kd.R_mono h.used (fun k hk => (⟨⟨hk.1.1, hk.2⟩, hk.1.2⟩ : (ok k ∧ some k ≠ m.gv.ownBlock) ∧ some k ≠ v.ownBlock))) hg hat) (fun k hk => ⟨⟨hk.1.1, hk.2⟩, hk.1.2⟩), h.g0⟩
end
def posAt (g : Nat) (w : World) : Nat := match w.cell? ⟨g, 1, none⟩ with | some v => (intOf v).toNat | none => 0
theorem posAt_of {B : Nat} {ok : Nat → Prop} {tv : Value} {en : Int} {w : World} {m : RdM} {s : RdS} (h : RSt B ok tv en w m s) : posAt m.g w = s.pos := by
  unfold posAt
  rw [h.cs.2.1]
  simp [intOf]
def AltRel (toks : List Tok) (en : Int) (alt : RdS → RP) (R : Except Int (List Int × RdS)) (p0 b0 f : Nat) (s : RdS) (all : List Int) : Bool → Prop
  | true => altsGo toks en alt f s all = R ∧ toks.length < f + s.pos ∧ s.pos ≤ toks.length ∧ all.length ≤ s.pos ∧ bud toks s ≤ b0 ∧ p0 ≤ s.pos
  | false => R = .ok (all, s) ∧ s.pos ≤ toks.length ∧ all.length ≤ s.pos + 1 ∧ bud toks s ≤ b0 + 1 ∧ p0 ≤ s.pos
def boolN : Value → Nat
  | .bool true => 1
  | _ => 0
set_option maxRecDepth 100000 in
set_option maxHeartbeats 8000000 in
theorem alternatives_any (w0 : World) (A : Option Addr) (c : Nat) (toks : List Tok) (en : Int) (f : Nat) (alt : RdS → RP) (halt : AltSaid w0 A c toks en f alt) (hmono : Mono toks alt) (hth : Thrift toks alt) (ht : Kd.C kTok w0 A toks.length toks) (hk : Kinds toks) (htl : toks.length ≤ 10000) :
    AltSaid w0 A c toks en (f + 1) (altW toks en alt) := by
  intro ok w m s hw h hfr hps hf hb
  have HIT := Lib.hid (fun (ok : Nat → Prop) (w : World) (m : RdM) (s : RdS) (hw : Below w0.heap.size w0 w) (h : RSt w0.heap.size ok (.slice A toks.length c) en w m s) (hfr : ∀ k, w.heap.size ≤ k → ok k) (hf : toks.length < f + 1 + s.pos) (hb : bud toks s ≤ 1000000) (hbg : beginsB toks s.pos = true) => item_any w0 A c toks en f alt halt hmono hth ht hk ok w m s hw h hfr hf hb hbg)
  have HBG := Lib.hid (fun (ok : Nat → Prop) (w : World) (m : RdM) (s : RdS) (hw : Below w0.heap.size w0 w) (h : RSt w0.heap.size ok (.slice A toks.length c) en w m s) => begins_any w0.heap.size ok A c toks en w m s h (Kd.C_below ht hw))
  have HTK := Lib.hid (fun (ok : Nat → Prop) (w : World) (m : RdM) (s : RdS) (mark : ByteArray) (hw : Below w0.heap.size w0 w) (h : RSt w0.heap.size ok (.slice A toks.length c) en w m s) => take_any w0.heap.size ok A c toks en w m s mark h (Kd.C_below ht hw))
  have HIM := Lib.hid (fun (s s1 : RdS) (n : Int) (hs : s.pos < toks.length) (he : itemW toks en alt s = .ok (n, s1)) => (⟨(itemW_mono hmono hs he).1, (itemW_mono hmono hs he).2, itemW_thrift hmono hth hs he⟩ : s.pos < s1.pos ∧ s1.pos ≤ toks.length ∧ bud toks s1 + 2 ≤ bud toks s))
  have HW := Lib.hid hw
  have HFR := Lib.hid hfr
  have hres : Hid (altW toks en alt s = match altsGo toks en alt (toks.length + 1 - s.pos) s [] with | .error p => .error p | .ok (all, s1) => .ok (oneP 2 all s1)) := Lib.hid rfl
  generalize altW toks en alt s = res at hres ⊢
  have HRR : Hid (AltRel toks en alt (altsGo toks en alt (toks.length + 1 - s.pos) s []) s.pos (bud toks s) (toks.length + 1 - s.pos) s [] true) := Lib.hid ⟨rfl, by omega, hps, by simp, Nat.le_refl _, Nat.le_refl _⟩
  generalize altsGo toks en alt (toks.length + 1 - s.pos) s [] = R at hres HRR
  have H0 := Lib.hid h
  clear h hw hfr halt hmono hth ht hk
  obtain ⟨g, rv, nv, gv, uv⟩ := m
  go_enter Try.func156, Try.ntmps156
  go_wp2_with fail
  go_loopw [3, 4] (fun v b wr => ∃ (more : Bool) (f1 : Nat) (s1 : RdS) (all : List Int) (rv nv gv uv : Value), b = .bool more ∧ Hid (AltRel toks en alt R s.pos (bud toks s) f1 s1 all more) ∧
      Hid (RSt w0.heap.size (fun k => ok k ∧ some k ≠ v.ownBlock) (.slice A toks.length c) en wr ⟨g, rv, nv, gv, uv⟩ s1) ∧ Hid ((Kd.int .i64).R 3 wr w.heap.size (fun k => w.heap.size ≤ k) v all) ∧ Hid (Fo ok w0.heap.size g w wr))
    (fun _ b wr => 2 * (toks.length + 1 - posAt g wr) + boolN b)
  case atStart => exact ⟨true, _, s, [], rv, nv, gv, uv, rfl, HRR, Lib.hid (H0.out.weak (fun k hk => ⟨hk, by simp [Value.ownBlock]⟩)), Lib.hid (Kd.R_nil _ _ _ _ _), Lib.hid (Fo.refl _ _ _ _)⟩
  case round =>
    clear HRR H0
    obtain ⟨more, f1, s1, all, rv, nv, gv, uv, rfl, HR, HS, HO, HF⟩ := hrel
    obtain ⟨wo, rfl⟩ : ∃ wo : World, wo = wr := ⟨_, rfl⟩
    have HP := Lib.hid (posAt_of HS.out)
    cases more with
    | false =>
      obtain ⟨hR0, hp1, ha1, hb1, hp0⟩ := HR.out
      have HR0 := Lib.hid hR0
      clear hR0 HR
      go_wp2_with fail
      have hbn : s1.nodes.length ≤ 1000000 := by unfold bud at hb1 hb; omega
      refine (one_any w0.heap.size ok (fun k => w.heap.size ≤ k) _ en wo ⟨g, rv, nv, gv, uv⟩ s1 2 all u3 (HS.out.weak (fun k hk => hk.1)) (Kd.R_lower HO.out HW.out.size) HFR.out (sizeFr (B := 0) HFR.out HF.out.size) (Nat.le_trans HW.out.size HF.out.size) hbn).mono ?_
      rintro e w2 ⟨rfl, m2, hg2, hS2, hF2⟩
      have HS2 := Lib.hid hS2
      have HF2 := Lib.hid (HF.out.trans hF2)
      clear hS2 hF2
      go_wp2_with fail
      go_ret
      rw [hres.out, HR0.out]
      exact ⟨rfl, m2, hg2, HS2.out, HF2.out⟩
    | true =>
      obtain ⟨hR0, hf1, hp1, ha1, hb1, hp0⟩ := HR.out
      have HR0 := Lib.hid hR0
      clear hR0 HR
      obtain ⟨f', rfl⟩ : ∃ f', f1 = f' + 1 := ⟨f1 - 1, by omega⟩
      have HRI : Hid (R = match itemsGo toks en alt (toks.length + 1 - s1.pos) s1 [] with
        | .error p => .error p
        | .ok (l, s2) => if isMark toks (oneP 1 l s2).2.pos (mkB 124) then altsGo toks en alt f' (stepS (oneP 1 l s2).2) (all ++ [(oneP 1 l s2).1]) else .ok (all ++ [(oneP 1 l s2).1], (oneP 1 l s2).2)) := Lib.hid (by
        rw [← HR0.out, altsGo]
        cases itemsGo toks en alt (toks.length + 1 - s1.pos) s1 [] <;> rfl)
      have hf2 : toks.length < toks.length + 1 - s1.pos + s1.pos := by omega
      generalize hR2 : itemsGo toks en alt (toks.length + 1 - s1.pos) s1 [] = R2 at HRI
      have HR2 := Lib.hid hR2
      generalize toks.length + 1 - s1.pos = f2 at hf2 HR2
      clear hR2 HR0
      go_wp2_with fail
      go_loopw [5] (fun v wr => ∃ (f2 : Nat) (s2 : RdS) (l : List Int) (rv nv gv uv : Value), Hid (itemsGo toks en alt f2 s2 l = R2) ∧ toks.length < f2 + s2.pos ∧ s1.pos ≤ s2.pos ∧ s2.pos ≤ toks.length ∧ l.length ≤ s2.pos ∧ bud toks s2 ≤ bud toks s1 ∧
          Hid (RSt w0.heap.size (fun k => (ok k ∧ some k ≠ u3.ownBlock) ∧ some k ≠ v.ownBlock) (.slice A toks.length c) en wr ⟨g, rv, nv, gv, uv⟩ s2) ∧ Hid ((Kd.int .i64).R 3 wr w.heap.size (fun k => w.heap.size ≤ k ∧ some k ≠ u3.ownBlock) v l) ∧
          Hid ((Kd.int .i64).R 3 wr w.heap.size (fun k => w.heap.size ≤ k ∧ some k ≠ v.ownBlock) u3 all) ∧ Hid (Fo ok w0.heap.size g w wr))
        (fun _ wr => toks.length + 1 - posAt g wr)
      case atStart => exact ⟨f2, s1, [], rv, nv, gv, uv, HR2, hf2, Nat.le_refl _, hp1, by simp, Nat.le_refl _, Lib.hid (HS.out.weak (fun k hk => ⟨hk, by simp [Value.ownBlock]⟩)), Lib.hid (Kd.R_nil _ _ _ _ _), Lib.hid (Kd.R_mono HO.out (fun k hk => ⟨hk, by simp [Value.ownBlock]⟩)), HF⟩
      case round =>
        clear HR2 hf2 HS HO HF
        obtain ⟨f3, s2, l, rv, nv, gv, uv, HR2, hf3, hp12, hp2, hl2, hb2, HS, HL, HO, HF⟩ := hrel
        obtain ⟨wi, rfl⟩ : ∃ wi : World, wi = wr := ⟨_, rfl⟩
        have HP2 := Lib.hid (posAt_of HS.out)
        have HB := Lib.hid (HW.out.trans (HF.out.toBelow HW.out.size))
        go_wp2_with fail
        refine (HBG.out _ wi ⟨g, rv, nv, gv, uv⟩ s2 HB.out HS.out).mono ?_
        rintro e w2 ⟨rfl, hbl2⟩
        have HS2 := Lib.hid (HS.out.below hbl2)
        have HL2 := Lib.hid (Kd.R_below HL.out hbl2)
        have HO2 := Lib.hid (Kd.R_below HO.out hbl2)
        have HF2 := Lib.hid (HF.out.trans (Fo.of_below hbl2))
        have HB2 := Lib.hid (HB.out.trans ((Below.refl _ _).trans (hbl2.mono HB.out.size)))
        clear hbl2 HS HL HO HF HB
        have HFRA : Hid (∀ k, w2.heap.size ≤ k → ok k ∧ some k ≠ u3.ownBlock) := Lib.hid (fun k hk => ⟨HFR.out k (Nat.le_trans HF2.out.size hk), fun e => by have := Kd.R_lt HO2.out k e.symm; omega⟩)
        have hbn : s2.nodes.length ≤ 1000000 := by unfold bud at hb2 hb1 hb; omega
        cases hbg : beginsB toks s2.pos
        · have HRE : Hid (R2 = .ok (l, s2)) := Lib.hid (by
            rw [← HR2.out]
            cases f3 with
            | zero => rfl
            | succ n => rw [itemsGo, if_neg (by simp [hbg])])
          clear hbg
          go_wp2_with fail
          refine (one_any w0.heap.size (fun k => ok k ∧ some k ≠ u3.ownBlock) (fun k => w.heap.size ≤ k ∧ some k ≠ u3.ownBlock) _ en w2 ⟨g, rv, nv, gv, uv⟩ s2 1 l u5 (HS2.out.weak (fun k hk => hk.1)) (Kd.R_lower HL2.out HW.out.size) (fun k hk => ⟨HFR.out k hk.1, hk.2⟩) HFRA.out (Nat.le_trans HW.out.size HF2.out.size) hbn).mono ?_
          rintro e w3 ⟨rfl, ⟨g3, rv3, nv3, gv3, uv3⟩, hg3, hS3, hF3⟩
          simp only at hg3
          subst hg3
          have HS3 := Lib.hid hS3
          have HF3 := Lib.hid (HF2.out.trans (hF3.weak (fun k hk => hk.1)))
          have HO3 := Lib.hid (Kd.R_mono (hF3.R HO2.out (by decide) (by simp)) (fun k hk => hk.1) : (Kd.int .i64).R 3 w3 w.heap.size (fun k => w.heap.size ≤ k) u3 all)
          have hb3 := bud_one toks 1 l s2
          have hp3 := oneP_pos 1 l s2
          rw [HRE.out] at HRI
          simp only at HRI
          clear hS3 hF3 HS2 HL2 HO2 HF2 HB2 HRE HR2
          generalize oneP 1 l s2 = r at *
          obtain ⟨n, s3⟩ := r
          simp only at hb3 hp3 HRI
          have hal : (all.length + 1) * 8 ≤ 140737488355328 := by omega
          have HHF : Hid (w.heap.size ≤ w3.heap.size) := Lib.hid HF3.out.size
          go_wp2_with (at_builtin; refine Kd.R_append (Kd.int .i64) (w0 := w3) w.heap.size rfl (.tmp 16) (.tmp 20) 36 3 _ 8 rfl Try.underlying36 info3r rfl (by decide) (by omega) _ all n [.int .i64 n] (fun k => w.heap.size ≤ k) (fun _ => False) rfl rfl rfl (fun _ hk => hk.elim) (fun k hk => Nat.le_trans HHF.out hk) HO3.out (Below.refl _ _) HHF.out hal ?_; intro v1 w4 ho hb1' hg hat; have HS4 := Lib.hid (HS3.out.grown3 HO3.out hg hat); have HF4 := Lib.hid (HF3.out.far hg (fun k hk => HO3.out.1 k hk)); have HO4 := Lib.hid ho; clear ho hb1' hg hat)
          have HB4 := Lib.hid (HW.out.trans (HF4.out.toBelow HW.out.size))
          refine (HTK.out _ w4 ⟨g3, rv3, nv3, gv3, uv3⟩ s3 (mkB 124) HB4.out HS4.out).mono ?_
          rintro e w5 ⟨rfl, hS5, hF5⟩
          have HO5 := Lib.hid (hF5.R HO4.out (by decide) (by simp))
          have HF5 := Lib.hid (HF4.out.trans (hF5.weak (fun k hk => hk.1)))
          cases hm : isMark toks s3.pos (mkB 124)
          · rw [take_no hm] at hS5
            rw [hm] at HRI
            have HS5 := Lib.hid hS5
            have HP5 := Lib.hid (posAt_of hS5)
            clear hS5 hF5 hm HS4 HF4 HO4 HB4
            go_wp2_with fail
            go_roundw
            case rel => exact ⟨false, 0, s3, all ++ [n], rv3, nv3, gv3, uv3, rfl, Lib.hid ⟨HRI.out, by omega, by simp; omega, by omega, by omega⟩, HS5, HO5, HF5⟩
            case measure => have h1 : posAt g3 wo = s1.pos := HP.out; have h2 : posAt g3 w5 = s3.pos := HP5.out; rw [h1, h2]; simp only [boolN]; omega
          · have hmlt := isMark_lt hm
            have hbs := bud_step toks s3 hmlt
            rw [take_yes hm] at hS5
            rw [hm] at HRI
            have HS5 := Lib.hid hS5
            have HP5 := Lib.hid (posAt_of hS5)
            clear hS5 hF5 hm HS4 HF4 HO4 HB4
            go_wp2_with fail
            go_roundw
            case rel => exact ⟨true, f', stepS s3, all ++ [n], rv3, nv3, gv3, uv3, rfl, Lib.hid ⟨HRI.out.symm, by show _ < f' + (s3.pos + 1); omega, by show s3.pos + 1 ≤ _; omega, by show _ ≤ s3.pos + 1; simp; omega, by omega, by show _ ≤ s3.pos + 1; omega⟩, HS5, HO5, HF5⟩
            case measure => have h1 : posAt g3 wo = s1.pos := HP.out; have h2 : posAt g3 w5 = s3.pos + 1 := HP5.out; rw [h1, h2]; simp only [boolN]; omega
        · have hlt2 := beginsB_lt hbg
          obtain ⟨f'', rfl⟩ : ∃ f'', f3 = f'' + 1 := ⟨f3 - 1, by omega⟩
          have HIC := Lib.hid (HIT.out _ w2 ⟨g, rv, nv, gv, uv⟩ s2 HB2.out HS2.out (fun k hk => ⟨HFRA.out k hk, fun e => by have := Kd.R_lt HL2.out k e.symm; omega⟩) (by omega) (by omega) hbg)
          have HRS : Hid (R2 = match itemW toks en alt s2 with | .error p => .error p | .ok (n, s3) => itemsGo toks en alt f'' s3 (l ++ [n])) := Lib.hid (by
            rw [← HR2.out, itemsGo, if_pos hbg]
            cases itemW toks en alt s2 <;> rfl)
          have HIM2 : Hid (∀ n s3, itemW toks en alt s2 = .ok (n, s3) → s2.pos < s3.pos ∧ s3.pos ≤ toks.length ∧ bud toks s3 + 2 ≤ bud toks s2) := Lib.hid (fun n s3 e => HIM.out s2 s3 n hlt2 e)
          clear hbg HR2
          generalize itemW toks en alt s2 = ri at HIC HRS HIM2
          go_wp2_with fail
          refine HIC.out.mono ?_
          intro e w3 hp
          cases ri with
          | error p =>
            obtain ⟨he, hF3⟩ := hp
            unfold Wrong at he
            subst he
            have HF3 := Lib.hid (HF2.out.trans (hF3.weak (fun k hk => hk.1.1)))
            clear hF3
            simp only at HRS
            go_wp2_with fail
            refine ⟨rfl, ?_⟩
            rw [hres.out, HRI.out, HRS.out]
            exact ⟨rfl, HF3.out⟩
          | ok r =>
            obtain ⟨n, s3⟩ := r
            obtain ⟨rfl, ⟨g3, rv3, nv3, gv3, uv3⟩, hg3, hS3, hF3⟩ := hp
            simp only at hg3
            subst hg3
            obtain ⟨hi1, hi2, hi3⟩ := HIM2.out n s3 rfl
            simp only at HRS
            have HS3 := Lib.hid hS3
            have HF3 := Lib.hid (HF2.out.trans (hF3.weak (fun k hk => hk.1.1)))
            have HO3 := Lib.hid (hF3.R HO2.out (by decide) (by simp))
            have HL3 := Lib.hid (hF3.R HL2.out (by decide) (by simp))
            clear hS3 hF3 HS2 HL2 HO2 HF2 HB2 HIC
            have hal : (l.length + 1) * 8 ≤ 140737488355328 := by omega
            have HHF : Hid (w.heap.size ≤ w3.heap.size) := Lib.hid HF3.out.size
            have HFR3 : Hid (∀ k, w3.heap.size ≤ k → w.heap.size ≤ k ∧ some k ≠ u3.ownBlock) := Lib.hid (fun k hk => ⟨Nat.le_trans HHF.out hk, fun e => by have := Kd.R_lt HO3.out k e.symm; omega⟩)
            go_wp2_with (at_builtin; refine Kd.R_append (Kd.int .i64) (w0 := w3) w.heap.size rfl (.tmp 11) (.tmp 14) 36 3 _ 8 rfl Try.underlying36 info3r rfl (by decide) (by omega) _ l n [.int .i64 n] (fun k => w.heap.size ≤ k ∧ some k ≠ u3.ownBlock) (fun _ => False) rfl rfl rfl (fun _ hk => hk.elim) HFR3.out HL3.out (Below.refl _ _) HHF.out hal ?_; intro v1 w4 ho hb1' hg hat; have HS4 := Lib.hid (HS3.out.grown3 HL3.out hg hat); have HF4 := Lib.hid (HF3.out.far hg (fun k hk => (HL3.out.1 k hk).1)); have HO4 := Lib.hid (Kd.R_after HO3.out hg hat); have HL4 := Lib.hid ho; have HP4 := Lib.hid (posAt_of HS4.out); clear ho hb1' hg hat)
            go_roundw
            case rel => exact ⟨f'', s3, l ++ [n], rv3, nv3, gv3, uv3, Lib.hid HRS.out.symm, by omega, by omega, hi2, by simp; omega, by omega, HS4, HL4, HO4, HF4⟩
            case measure => have h1 : posAt g3 wi = s2.pos := HP2.out; have h2 : posAt g3 w4 = s3.pos := HP4.out; rw [h1, h2]; omega
end Go.Proofs.Ytoiejgmfgcdniaa
namespace Go.Proofs.Ytoiejgmfgcdniaa
open Go.RowKit Go.Proofs.YtoiejgmfgcdniaaW.PrintWords

/-! ### alternatives at any depth -/
theorem altF_thrift' (toks : List Tok) (en : Int) : ∀ f, Thrift toks (altF toks en f) := altF_thrift toks en
theorem altF_said (w0 : World) (A : Option Addr) (c : Nat) (toks : List Tok) (en : Int) (ht : Kd.C kTok w0 A toks.length toks) (hk : Kinds toks) (htl : toks.length ≤ 10000) : ∀ f, AltSaid w0 A c toks en f (altF toks en f) := by
  intro f
  induction f with
  | zero => intro ok w m s _ _ _ hps hf; omega
  | succ f ih => exact alternatives_any w0 A c toks en f _ ih (altF_mono toks en f) (altF_thrift toks en f) ht hk htl
/-! ### the parser turns neither the rules nor what is given -/
def Keep (alt : RdS → RP) : Prop := ∀ s n s1, alt s = .ok (n, s1) → s1.rules = s.rules ∧ s1.given = s.given
theorem atomW_keep {toks : List Tok} {en : Int} {alt : RdS → RP} (ha : Keep alt) {s s1 : RdS} {n : Int} (h : atomW toks en alt s = .ok (n, s1)) : s1.rules = s.rules ∧ s1.given = s.given := by
  unfold atomW at h
  split at h
  · cases hal : alt (stepS s) with
    | error p => rw [hal] at h; cases h
    | ok r =>
      obtain ⟨k, s2⟩ := r
      rw [hal] at h
      simp only at h
      have h1 := ha _ _ _ hal
      split at h
      · simp only [Except.ok.injEq, Prod.mk.injEq] at h
        obtain ⟨_, rfl⟩ := h
        exact h1
      · cases h
  · cases hx : toks[s.pos]? with
    | none => rw [hx] at h; cases h
    | some x =>
      rw [hx] at h
      simp only at h
      split at h
      · simp only [Except.ok.injEq, layN, Prod.mk.injEq] at h
        obtain ⟨_, rfl⟩ := h
        exact ⟨rfl, rfl⟩
      · cases hn : nameP toks en s.pos with
        | error p => rw [hn] at h; cases h
        | ok u =>
          rw [hn] at h
          simp only [Except.ok.injEq, layN, Prod.mk.injEq] at h
          obtain ⟨_, rfl⟩ := h
          exact ⟨rfl, rfl⟩
theorem itemW_keep {toks : List Tok} {en : Int} {alt : RdS → RP} (ha : Keep alt) {s s1 : RdS} {n : Int} (h : itemW toks en alt s = .ok (n, s1)) : s1.rules = s.rules ∧ s1.given = s.given := by
  unfold itemW at h
  cases hat : atomW toks en alt s with
  | error p => rw [hat] at h; cases h
  | ok r =>
    obtain ⟨k, s2⟩ := r
    rw [hat] at h
    simp only at h
    have h2 := atomW_keep ha hat
    split at h
    · simp only [Except.ok.injEq, layN, Prod.mk.injEq] at h
      obtain ⟨_, rfl⟩ := h
      exact h2
    split at h
    · simp only [Except.ok.injEq, layN, Prod.mk.injEq] at h
      obtain ⟨_, rfl⟩ := h
      exact h2
    split at h
    · simp only [Except.ok.injEq, layN, Prod.mk.injEq] at h
      obtain ⟨_, rfl⟩ := h
      exact h2
    · simp only [Except.ok.injEq, Prod.mk.injEq] at h
      obtain ⟨_, rfl⟩ := h
      exact h2
theorem oneP_keep (kind : Int) (l : List Int) (s : RdS) : (oneP kind l s).2.rules = s.rules ∧ (oneP kind l s).2.given = s.given := by unfold oneP; split <;> exact ⟨rfl, rfl⟩
theorem itemsGo_keep {toks : List Tok} {en : Int} {alt : RdS → RP} (ha : Keep alt) : ∀ (f : Nat) (s : RdS) (l l' : List Int) (s1 : RdS), itemsGo toks en alt f s l = .ok (l', s1) → s1.rules = s.rules ∧ s1.given = s.given := by
  intro f
  induction f with
  | zero => intro s l l' s1 h; simp only [itemsGo, Except.ok.injEq, Prod.mk.injEq] at h; obtain ⟨_, rfl⟩ := h; exact ⟨rfl, rfl⟩
  | succ f ih =>
    intro s l l' s1 h
    rw [itemsGo] at h
    split at h
    · cases hi : itemW toks en alt s with
      | error p => rw [hi] at h; cases h
      | ok r =>
        obtain ⟨k, s2⟩ := r
        rw [hi] at h
        have h2 := itemW_keep ha hi
        have h3 := ih s2 _ _ _ h
        exact ⟨h3.1.trans h2.1, h3.2.trans h2.2⟩
    · simp only [Except.ok.injEq, Prod.mk.injEq] at h; obtain ⟨_, rfl⟩ := h; exact ⟨rfl, rfl⟩
theorem altsGo_keep {toks : List Tok} {en : Int} {alt : RdS → RP} (ha : Keep alt) : ∀ (f : Nat) (s : RdS) (l l' : List Int) (s1 : RdS), altsGo toks en alt f s l = .ok (l', s1) → s1.rules = s.rules ∧ s1.given = s.given := by
  intro f
  induction f with
  | zero => intro s l l' s1 h; simp only [altsGo, Except.ok.injEq, Prod.mk.injEq] at h; obtain ⟨_, rfl⟩ := h; exact ⟨rfl, rfl⟩
  | succ f ih =>
    intro s l l' s1 h
    rw [altsGo] at h
    cases hi : itemsGo toks en alt (toks.length + 1 - s.pos) s [] with
    | error p => rw [hi] at h; cases h
    | ok r =>
      obtain ⟨k, s2⟩ := r
      rw [hi] at h
      simp only at h
      have h2 := itemsGo_keep ha _ _ _ _ _ hi
      have h1 := oneP_keep 1 k s2
      split at h
      · have h3 := ih _ _ _ _ h
        exact ⟨h3.1.trans (h1.1.trans h2.1), h3.2.trans (h1.2.trans h2.2)⟩
      · simp only [Except.ok.injEq, Prod.mk.injEq] at h; obtain ⟨_, rfl⟩ := h; exact ⟨h1.1.trans h2.1, h1.2.trans h2.2⟩
theorem altW_keep {toks : List Tok} {en : Int} {alt : RdS → RP} (ha : Keep alt) : Keep (altW toks en alt) := by
  intro s n s1 h
  unfold altW at h
  cases hi : altsGo toks en alt (toks.length + 1 - s.pos) s [] with
  | error p => rw [hi] at h; cases h
  | ok r =>
    obtain ⟨k, s2⟩ := r
    rw [hi] at h
    simp only [Except.ok.injEq] at h
    have h2 := altsGo_keep ha _ _ _ _ _ hi
    have h3 : s1 = (oneP 2 k s2).2 := by rw [h]
    have h1 := oneP_keep 2 k s2
    rw [h3]
    exact ⟨h1.1.trans h2.1, h1.2.trans h2.2⟩
theorem altF_keep (toks : List Tok) (en : Int) : ∀ f, Keep (altF toks en f) := by
  intro f
  induction f with
  | zero => intro s n s1 h; cases h
  | succ f ih => exact altW_keep ih
/-! ### all rules -/
def giveS (s : RdS) (u : Use) : RdS := { stepS s with given := s.given ++ [u] }
def ruleS (s : RdS) (r : Rule) : RdS := { stepS s with rules := s.rules ++ [r] }
def textGo (toks : List Tok) (en : Int) (alt : RdS → RP) : Nat → RdS → Except Int RdS
  | 0, s => .ok s
  | f + 1, s =>
    match nameP toks en s.pos with
    | .error p => .error p
    | .ok u =>
      if isMark toks (s.pos + 1) (mkB 58) then
        match alt (stepS (giveS s u)) with
        | .error p => .error p
        | .ok (n, s2) =>
          if isMark toks s2.pos (mkB 59) then
            if s2.pos + 1 < toks.length then textGo toks en alt f (ruleS s2 ⟨u.name, n⟩) else .ok (ruleS s2 ⟨u.name, n⟩)
          else .error (failP toks en s2.pos)
      else .error (failP toks en (s.pos + 1))
end Go.Proofs.Ytoiejgmfgcdniaa
