import Derived.Test.YtoiejgmfgcdniaaXRead16
import Derived.Deep.RegionHeld3
import Derived.Defers
import Derived.Recover
set_option linter.unusedVariables false
set_option linter.unusedSimpArgs false
namespace Go.Proofs.Ytoiejgmfgcdniaa
open Go.RowKit Go.Proofs.YtoiejgmfgcdniaaW.PrintWords

/-! ### a name is given; a rule is laid -/
section
variable {B : Nat} {ok : Nat → Prop} {tv : Value} {en : Int} {W w5 : World} {m : RdM} {s : RdS} {v1 : Value}
theorem RSt.give {gs : List Use} (h : RSt B ok tv en W m s) (ho : kUse.R 187 w5 B (fun k => ok k ∧ some k ≠ m.uv.ownBlock) v1 gs) (hg : W.grownBy w5 m.gv.ownBlock) (hat : v1.ownBlock = m.gv.ownBlock ∨ ∃ b, v1.ownBlock = some b ∧ W.heap.size ≤ b) :
    RSt B ok tv en (w5.setCell ⟨m.g, 5, none⟩ v1) { m with gv := v1 } { s with given := gs } ∧ Fo ok B m.g W (w5.setCell ⟨m.g, 5, none⟩ v1) := by
  have hcell := blk_grown h.cells hg (Kd.R_ne h.given h.cells (by decide))
  refine ⟨⟨(blk_set hcell 5 _).trans rfl, Kd.R_set (Kd.R_over h.rules h.given (by decide) hg) hcell (by decide) 5 _, Kd.R_set (Kd.R_over h.nodes h.given (by decide) hg) hcell (by decide) 5 _, Kd.R_set ho hcell (by decide) 5 _,
    Kd.R_set (Kd.R_after h.used hg hat) hcell (by decide) 5 _, h.g0⟩, (Fo.grown h.given (by decide) (Nat.le_refl _) (fun _ hk => hk.1) hg).trans (Fo.set hcell h.g0)⟩
theorem RSt.rule {rs : List Rule} (h : RSt B ok tv en W m s) (ho : kRule.R 59 w5 B ok v1 rs) (hg : W.grownBy w5 m.rv.ownBlock) :
    RSt B ok tv en (w5.setCell ⟨m.g, 3, none⟩ v1) { m with rv := v1 } { s with rules := rs } ∧ Fo ok B m.g W (w5.setCell ⟨m.g, 3, none⟩ v1) := by
  have hcell := blk_grown h.cells hg (Kd.R_ne h.rules h.cells (by decide))
  refine ⟨⟨(blk_set hcell 3 _).trans rfl, Kd.R_set ho hcell (by decide) 3 _, Kd.R_set (Kd.R_over h.nodes h.rules (by decide) hg) hcell (by decide) 3 _, Kd.R_set (Kd.R_over h.given h.rules (by decide) hg) hcell (by decide) 3 _,
    Kd.R_set (Kd.R_over h.used h.rules (by decide) hg) hcell (by decide) 3 _, h.g0⟩, (Fo.grown h.rules (by decide) (Nat.le_refl _) (fun _ hk => hk) hg).trans (Fo.set hcell h.g0)⟩
end
theorem RSt.bound {B : Nat} {ok : Nat → Prop} {tv : Value} {en : Int} {w : World} {m : RdM} {s : RdS} (h : RSt B ok tv en w m s) : RSt B (fun k => ok k ∧ k < w.heap.size) tv en w m s :=
  ⟨h.cells, Kd.R_mono (Kd.R_bound h.rules) (fun k hk => ⟨hk.1, hk.2.2.1⟩), Kd.R_mono (Kd.R_bound h.nodes) (fun k hk => ⟨hk.1, hk.2.2.1⟩), Kd.R_mono (Kd.R_bound h.given) (fun k hk => ⟨⟨hk.1.1, hk.2.2.1⟩, hk.1.2⟩), Kd.R_mono (Kd.R_bound h.used) (fun k hk => ⟨⟨hk.1.1, hk.2.2.1⟩, hk.1.2⟩), h.g0⟩
theorem bud_give (toks : List Tok) (s : RdS) (u : Use) (h : s.pos < toks.length) : bud toks (giveS s u) + 4 = bud toks s := by unfold giveS bud stepS; simp only; omega
theorem bud_rule (toks : List Tok) (s : RdS) (r : Rule) (h : s.pos < toks.length) : bud toks (ruleS s r) + 4 = bud toks s := by unfold ruleS bud stepS; simp only; omega
theorem nameP_lt {toks : List Tok} {en : Int} {p : Nat} {u : Use} (h : nameP toks en p = .ok u) : p < toks.length := by
  unfold nameP at h
  cases hx : toks[p]? with
  | none => rw [hx] at h; cases h
  | some t => exact (List.getElem?_eq_some_iff.1 hx).1
def TextRel (toks : List Tok) (en : Int) (alt : RdS → RP) (R : Except Int RdS) (f : Nat) (s : RdS) : Bool → Prop
  | true => textGo toks en alt f s = R ∧ toks.length < f + s.pos ∧ s.pos ≤ toks.length ∧ s.given.length ≤ s.pos ∧ s.rules.length ≤ s.pos ∧ bud toks s ≤ 100000
  | false => R = .ok s ∧ s.pos ≤ toks.length
def TextPost (B : Nat) (ok : Nat → Prop) (tv : Value) (en : Int) (w : World) (g : Nat) (r : Except Int RdS) (e : Ending) (w' : World) : Prop :=
  match r with
  | .ok s => e = .returned (.tuple #[]) ∧ ∃ m, m.g = g ∧ RSt B ok tv en w' m s ∧ Fo ok B g w w'
  | .error p => Wrong p e ∧ Fo ok B g w w'
set_option maxRecDepth 100000 in
set_option maxHeartbeats 8000000 in
theorem text_any (w0 : World) (A : Option Addr) (c : Nat) (toks : List Tok) (en : Int) (F : Nat) (hF : toks.length < F) (ht : Kd.C kTok w0 A toks.length toks) (hk : Kinds toks) (htl : toks.length ≤ 10000)
    (ok : Nat → Prop) (w : World) (m : RdM) (s : RdS) (hw : Below w0.heap.size w0 w) (h : RSt w0.heap.size ok (.slice A toks.length c) en w m s) (hfr : ∀ k, w.heap.size ≤ k → ok k)
    (hs0 : s.pos = 0) (hgv : s.given = []) (hrv : s.rules = []) (hb : bud toks s ≤ 100000) :
    Calls Try.prog 109 #[.pointer (some ⟨m.g, 0, none⟩)] w (TextPost w0.heap.size ok (.slice A toks.length c) en w m.g (textGo toks en (altF toks en F) (toks.length + 1) s)) := by
  have HNM := Lib.hid (fun (ok : Nat → Prop) (w : World) (m : RdM) (s : RdS) (hw : Below w0.heap.size w0 w) (h : RSt w0.heap.size ok (.slice A toks.length c) en w m s) => rname_any w0 ok A c toks en w m s ht hw h)
  have HMU := Lib.hid (fun (ok : Nat → Prop) (w : World) (m : RdM) (s : RdS) (mark : ByteArray) (hw : Below w0.heap.size w0 w) (h : RSt w0.heap.size ok (.slice A toks.length c) en w m s) => must_any w0 ok A c toks en w m s mark ht hw h)
  have HAL := Lib.hid (altF_said w0 A c toks en ht hk htl F)
  have HAM := Lib.hid (fun s n s1 => altF_mono toks en F s n s1)
  have HAT := Lib.hid (fun s n s1 => altF_thrift toks en F s n s1)
  have HAK := Lib.hid (fun s n s1 => altF_keep toks en F s n s1)
  have HW := Lib.hid hw
  have HFR := Lib.hid hfr
  have HRR : Hid (TextRel toks en (altF toks en F) (textGo toks en (altF toks en F) (toks.length + 1) s) (toks.length + 1) s true) := Lib.hid ⟨rfl, by omega, by omega, by rw [hgv]; simp, by rw [hrv]; simp, hb⟩
  generalize textGo toks en (altF toks en F) (toks.length + 1) s = R at HRR ⊢
  generalize altF toks en F = alt at *
  have H0 := Lib.hid h
  have HTK := Lib.hid ht
  clear h hw hfr ht hk hs0 hgv hrv hb
  obtain ⟨g, rv, nv, gv, uv⟩ := m
  go_enter Try.func109, Try.ntmps109
  go_wp2_with fail
  go_loopw [2] (fun b wr => ∃ (more : Bool) (f1 : Nat) (s1 : RdS) (rv nv gv uv : Value), b = .bool more ∧ Hid (TextRel toks en alt R f1 s1 more) ∧
      Hid (RSt w0.heap.size ok (.slice A toks.length c) en wr ⟨g, rv, nv, gv, uv⟩ s1) ∧ Hid (Fo ok w0.heap.size g w wr))
    (fun b wr => 2 * (toks.length + 1 - posAt g wr) + boolN b)
  case atStart => exact ⟨true, _, s, rv, nv, gv, uv, rfl, HRR, H0, Lib.hid (Fo.refl _ _ _ _)⟩
  case round =>
    clear HRR H0
    obtain ⟨more, f1, s1, rv, nv, gv, uv, rfl, HR, HS, HF⟩ := hrel
    obtain ⟨wo, rfl⟩ : ∃ wo : World, wo = wr := ⟨_, rfl⟩
    have HP := Lib.hid (posAt_of HS.out)
    cases more with
    | false =>
      obtain ⟨hR0, hp1⟩ := HR.out
      have HR0 := Lib.hid hR0
      clear hR0 HR
      go_wp2_with fail
      go_end0
      rw [HR0.out]
      exact ⟨rfl, _, rfl, HS.out, HF.out⟩
    | true =>
      obtain ⟨hR0, hf1, hp1, hgl1, hrl1, hb1⟩ := HR.out
      obtain ⟨f', rfl⟩ : ∃ f', f1 = f' + 1 := ⟨f1 - 1, by omega⟩
      have HR0 : Hid (R = match nameP toks en s1.pos with
        | .error p => .error p
        | .ok u =>
          if isMark toks (s1.pos + 1) (mkB 58) then
            match alt (stepS (giveS s1 u)) with
            | .error p => .error p
            | .ok (n, s2) =>
              if isMark toks s2.pos (mkB 59) then
                if s2.pos + 1 < toks.length then textGo toks en alt f' (ruleS s2 ⟨u.name, n⟩) else .ok (ruleS s2 ⟨u.name, n⟩)
              else .error (failP toks en s2.pos)
          else .error (failP toks en (s1.pos + 1))) := Lib.hid (by
        rw [← hR0, textGo]
        cases nameP toks en s1.pos with
        | error p => rfl
        | ok u => cases alt (stepS (giveS s1 u)) <;> rfl)
      have HB := Lib.hid (HW.out.trans (HF.out.toBelow HW.out.size))
      clear hR0 HR
      go_wp2_with fail
      refine (HNM.out _ wo ⟨g, rv, nv, gv, uv⟩ s1 HB.out HS.out).mono ?_
      intro e w2 hp
      cases hnm : nameP toks en s1.pos with
      | error p =>
        rw [hnm] at hp HR0
        obtain ⟨he, hF2⟩ := hp
        unfold Wrong at he
        subst he
        have HF2 := Lib.hid (HF.out.trans hF2)
        clear hF2 hnm
        simp only at HR0
        go_wp2_with fail
        refine ⟨rfl, ?_⟩
        rw [HR0.out]
        exact ⟨rfl, HF2.out⟩
      | ok u =>
        rw [hnm] at hp HR0
        obtain ⟨rfl, hS2, hF2⟩ := hp
        simp only at HR0
        have hnl := nameP_lt hnm
        have hbx := blk_new w2 (.cells #[.string u.name, .int .i64 u.pos] 187)
        have hb4 := below_alloc (Below.refl w2.heap.size w2) (.cells #[.string u.name, .int .i64 u.pos] 187)
        have hsz4 := size_alloc w2 (.cells #[.string u.name, .int .i64 u.pos] 187)
        have hneg : g ≠ w2.heap.size := by have := blk_lt hS2.cells; simp only at this; omega
        have hneg' : w2.heap.size ≠ g := fun e => hneg e.symm
        have HS2 := Lib.hid (hS2.bound.weak (fun k hk => (⟨hk.1, by omega⟩ : ok k ∧ k ≠ w2.heap.size)))
        have HF2 := Lib.hid (HF.out.trans hF2)
        clear hF2 hnm hS2
        go_upto_region 4 with (fail)
        generalize w2.alloc (.cells #[.string u.name, .int .i64 u.pos] 187) = W4 at *
        have HS4 := Lib.hid (HS2.out.below hb4)
        have HF4 := Lib.hid (HF2.out.trans (Fo.of_below hb4))
        have HSD := Lib.hid (HS4.out.below (below_drew (Below.refl W4.heap.size W4)))
        obtain ⟨y0, y1⟩ := cells2 hbx
        obtain ⟨Ag, cg, hgs⟩ := Kd.R_slice HS4.out.given
        simp only [stepS] at hgs
        subst hgs
        obtain ⟨_, _, _, _, _, d5, _⟩ := HS4.out.cs
        have hgl5 := blk_lt HS4.out.cells
        have f5 := blk_frozen HS4.out.cells 5
        simp only at d5 hgl5 f5
        have HBX := Lib.hid hbx
        have hltB := Lib.hid (blk_lt hbx)
        have hneU := Lib.hid (show some w2.heap.size ≠ (Value.slice Ag s1.given.length cg).ownBlock from fun e => by have := HS4.out.given.1 w2.heap.size e.symm; exact this.1.2 rfl)
        have hc1 := Lib.hid (show ∀ k, W4.drew.heap.size ≤ k → ((ok k ∧ k ≠ w2.heap.size) ∧ some k ≠ uv.ownBlock) from fun k hk => ⟨⟨sizeFr (B := 0) HFR.out HF4.out.size k hk, by have : W4.drew.heap.size = W4.heap.size := rfl; omega⟩, fun e => by have := Kd.R_lt HS4.out.used k e.symm; have : W4.drew.heap.size = W4.heap.size := rfl; omega⟩)
        have hc3 := Lib.hid (below_drew (Below.refl w0.heap.size W4))
        have hc4 := Lib.hid (show (s1.given.length + 1) * 24 ≤ 140737488355328 by omega)
        have hc5 := Lib.hid (show w0.heap.size ≤ W4.drew.heap.size from Nat.le_trans HW.out.size HF4.out.size)
        clear hb4 hbx hsz4
        go_region_law ((refine Kd.R_append_step kUse (w0 := W4) (W := W4.drew) w0.heap.size (by rfl) (.tmp 22) (.tmp 24) 112 187 _ 24 (by rfl) Try.underlying112 info187 (by rfl) (by decide) (by omega) (.slice Ag s1.given.length cg) s1.given u [.string u.name, .int .i64 u.pos] (fun k => (ok k ∧ k ≠ w2.heap.size) ∧ some k ≠ uv.ownBlock) (fun _ => False) (by rfl) (by rfl) (kUse_mkM _ _ _ _) (fun _ hk => hk.elim) hc1.out HSD.out.given hc3.out hc5.out hc4.out ?_; intro v1 w5 ho hb1' hg hat; obtain ⟨A5, c5, hv5⟩ := Kd.R_slice ho; rw [List.length_append, List.length_singleton] at hv5; subst hv5; have hGV := HSD.out.give ho hg hat; have hcell := blk_grown HSD.out.cells hg (Kd.R_ne HSD.out.given HSD.out.cells (by decide)); have hX5 := (hg.block _ hltB.out hneU.out).trans HBX.out; have d5' : w5.cell? ⟨g, 5, none⟩ = some (.slice Ag s1.given.length cg) := (blk_cell hcell 5).trans rfl; have f5' : w5.frozen? ⟨g, 5, none⟩ = false := blk_frozen hcell 5; have hgl5' := blk_lt hcell; have HX5 := Lib.hid ((Below.heap_setCell w5 ⟨g, 5, none⟩ (.slice A5 (s1.given.length + 1) c5) _ hneg').trans hX5); have HGV := Lib.hid hGV; clear ho hb1' hg hat hGV hcell hX5))
        all_goals
          obtain ⟨hSQ, hFQ⟩ := HGV.out
          have HSQ : Hid (RSt w0.heap.size (fun k => ok k ∧ k ≠ w2.heap.size) (.slice A toks.length c) en (w5.setCell ⟨g, 5, none⟩ (.slice A5 (s1.given.length + 1) c5)) ⟨g, rv, nv, .slice A5 (s1.given.length + 1) c5, uv⟩ (giveS s1 u)) := Lib.hid hSQ
          have HFQ := Lib.hid (HF4.out.trans ((Fo.of_below (below_drew (Below.refl _ _))).trans (hFQ.weak (fun k hk => hk.1))))
          have hltQ := blk_lt HX5.out
          clear hSQ hFQ HGV d5 f5 y0 y1 d5' f5' hgl5' hgl5
          generalize (w5.setCell ⟨g, 5, none⟩ (.slice A5 (s1.given.length + 1) c5)) = Q at *
          have HBQ := Lib.hid (HW.out.trans (HFQ.out.toBelow HW.out.size))
          go_wp2_with fail
          refine (HMU.out _ Q ⟨g, rv, nv, .slice A5 (s1.given.length + 1) c5, uv⟩ (giveS s1 u) (mkB 58) HBQ.out HSQ.out).mono ?_
          intro e w6 hp6
          unfold MustPost at hp6
          have hgp : (giveS s1 u).pos = s1.pos + 1 := rfl
          rw [hgp] at hp6
          have hbg := bud_give toks s1 u hnl
          clear hgp
          cases hm : isMark toks (s1.pos + 1) (mkB 58)
          · rw [if_neg (by simp [hm])] at hp6
            rw [hm] at HR0
            obtain ⟨he, hF6⟩ := hp6
            unfold Wrong at he
            subst he
            have HF6 := Lib.hid (HFQ.out.trans (hF6.weak (fun k hk => hk.1)))
            clear hF6 hm
            go_wp2_with fail
            refine ⟨rfl, ?_⟩
            rw [HR0.out]
            exact ⟨rfl, HF6.out⟩
          · rw [if_pos hm] at hp6
            rw [hm] at HR0
            have hml := isMark_lt hm
            obtain ⟨he, hS6, hF6⟩ := hp6
            subst he
            have HS6 : Hid (RSt w0.heap.size (fun k => ok k ∧ k ≠ w2.heap.size) (.slice A toks.length c) en w6 ⟨g, rv, nv, .slice A5 (s1.given.length + 1) c5, uv⟩ (stepS (giveS s1 u))) := Lib.hid hS6
            have HX6 := Lib.hid ((hF6.keep _ hltQ (fun h => h.2 rfl) hneg').trans HX5.out)
            have HF6 := Lib.hid (HFQ.out.trans (hF6.weak (fun k hk => hk.1)))
            have HB6 := Lib.hid (HW.out.trans (HF6.out.toBelow HW.out.size))
            have hlt6 := blk_lt HX6.out
            have hbs := bud_step toks (giveS s1 u) hml
            clear hS6 hF6 hm
            go_wp2_with fail
            refine (HAL.out _ w6 ⟨g, rv, nv, .slice A5 (s1.given.length + 1) c5, uv⟩ (stepS (giveS s1 u)) HB6.out HS6.out (fun k hk => ⟨HFR.out k (Nat.le_trans HF6.out.size hk), by omega⟩) (by show s1.pos + 1 + 1 ≤ _; omega) (by show _ < F + (s1.pos + 1 + 1); omega) (by omega)).mono ?_
            intro e w7 hp7
            cases hal : alt (stepS (giveS s1 u)) with
            | error p =>
              rw [hal] at hp7 HR0
              obtain ⟨he, hF7⟩ := hp7
              unfold Wrong at he
              subst he
              simp only at HR0
              have HF7 := Lib.hid (HF6.out.trans (hF7.weak (fun k hk => hk.1)))
              clear hF7 hal
              go_wp2_with fail
              refine ⟨rfl, ?_⟩
              rw [HR0.out]
              exact ⟨rfl, HF7.out⟩
            | ok r =>
              obtain ⟨n, s2⟩ := r
              rw [hal] at hp7 HR0
              obtain ⟨rfl, ⟨g7, rv7, nv7, gv7, uv7⟩, hg7, hS7, hF7⟩ := hp7
              simp only at hg7 HR0
              subst hg7
              obtain ⟨ha1, ha2⟩ := HAM.out _ _ _ (by show s1.pos + 1 + 1 ≤ _; omega) hal
              have ha3 := HAT.out _ _ _ (by show s1.pos + 1 + 1 ≤ _; omega) hal
              obtain ⟨ha4, ha5⟩ := HAK.out _ _ _ hal
              have ha1' : s1.pos + 1 + 1 ≤ s2.pos := ha1
              have hl4 : s2.rules.length ≤ s1.rules.length := by rw [ha4]; exact Nat.le_refl _
              have hl5 : s2.given.length ≤ s1.given.length + 1 := by rw [ha5]; show (s1.given ++ [u]).length ≤ _; simp
              have HS7 := Lib.hid hS7
              have HX7 := Lib.hid ((hF7.keep _ hlt6 (fun h => h.2 rfl) hneg').trans HX6.out)
              have HF7 := Lib.hid (HF6.out.trans (hF7.weak (fun k hk => hk.1)))
              have HB7 := Lib.hid (HW.out.trans (HF7.out.toBelow HW.out.size))
              have hlt7 := blk_lt HX7.out
              clear hS7 hF7 hal ha1 ha4 ha5 HS6 HX6 HF6 HB6 HSQ HFQ HBQ
              go_wp2_with fail
              refine (HMU.out _ w7 ⟨g7, rv7, nv7, gv7, uv7⟩ s2 (mkB 59) HB7.out HS7.out).mono ?_
              intro e w8 hp8
              unfold MustPost at hp8
              cases hm : isMark toks s2.pos (mkB 59)
              · rw [if_neg (by simp [hm])] at hp8
                rw [hm] at HR0
                obtain ⟨he, hF8⟩ := hp8
                unfold Wrong at he
                subst he
                have HF8 := Lib.hid (HF7.out.trans (hF8.weak (fun k hk => hk.1)))
                clear hF8 hm
                go_wp2_with fail
                refine ⟨rfl, ?_⟩
                rw [HR0.out]
                exact ⟨rfl, HF8.out⟩
              · rw [if_pos hm] at hp8
                rw [hm] at HR0
                have hml2 := isMark_lt hm
                obtain ⟨he, hS8, hF8⟩ := hp8
                subst he
                have HS8 : Hid (RSt w0.heap.size (fun k => ok k ∧ k ≠ w2.heap.size) (.slice A toks.length c) en w8 ⟨g7, rv7, nv7, gv7, uv7⟩ (stepS s2)) := Lib.hid hS8
                have HX8 := Lib.hid ((hF8.keep _ hlt7 (fun h => h.2 rfl) hneg').trans HX7.out)
                have HF8 := Lib.hid (HF7.out.trans (hF8.weak (fun k hk => hk.1)))
                clear hS8 hF8 hm
                go_upto_region 8 with (fail)
                have HSE := Lib.hid (HS8.out.below (below_drew (Below.refl w8.heap.size w8)))
                obtain ⟨x0, x1⟩ := cells2 HX8.out
                obtain ⟨Ar, cr, hrs⟩ := Kd.R_slice HS8.out.rules
                simp only [stepS] at hrs
                subst hrs
                obtain ⟨_, _, _, d3, _⟩ := HS8.out.cs
                have hgl3 := blk_lt HS8.out.cells
                have f3 := blk_frozen HS8.out.cells 3
                simp only at d3 hgl3 f3
                have hr1 := Lib.hid (show ∀ k, w8.drew.heap.size ≤ k → (ok k ∧ k ≠ w2.heap.size) from fun k hk => ⟨sizeFr (B := 0) HFR.out HF8.out.size k hk, by have : w8.drew.heap.size = w8.heap.size := rfl; have := blk_lt HX8.out; omega⟩)
                have hr3 := Lib.hid (below_drew (Below.refl w0.heap.size w8))
                have hr4 := Lib.hid (show (s2.rules.length + 1) * 24 ≤ 140737488355328 by omega)
                have hr5 := Lib.hid (show w0.heap.size ≤ w8.drew.heap.size from Nat.le_trans HW.out.size HF8.out.size)
                go_region_law ((refine Kd.R_append_step kRule (w0 := w8) (W := w8.drew) w0.heap.size (by rfl) (.tmp 39) (.tmp 44) 22 59 _ 24 (by rfl) Try.underlying22 info59 (by rfl) (by decide) (by omega) (.slice Ar s2.rules.length cr) s2.rules ⟨u.name, n⟩ [.string u.name, .int .i64 n] (fun k => ok k ∧ k ≠ w2.heap.size) (fun _ => False) (by rfl) (by rfl) (kRule_mkM _ _ _ _) (fun _ hk => hk.elim) hr1.out HSE.out.rules hr3.out hr5.out hr4.out ?_; intro v1 w9 ho hb1' hg hat; obtain ⟨A9, c9, hv9⟩ := Kd.R_slice ho; rw [List.length_append, List.length_singleton] at hv9; subst hv9; have hGV := HSE.out.rule ho hg; have hcell := blk_grown HSE.out.cells hg (Kd.R_ne HSE.out.rules HSE.out.cells (by decide)); have d3' : w9.cell? ⟨g7, 3, none⟩ = some (.slice Ar s2.rules.length cr) := (blk_cell hcell 3).trans rfl; have f3' : w9.frozen? ⟨g7, 3, none⟩ = false := blk_frozen hcell 3; have hgl3' := blk_lt hcell; have HGV := Lib.hid hGV; clear ho hb1' hg hat hGV hcell))
                all_goals
                  obtain ⟨hSQ, hFQ⟩ := HGV.out
                  have HSZ : Hid (RSt w0.heap.size ok (.slice A toks.length c) en (w9.setCell ⟨g7, 3, none⟩ (.slice A9 (s2.rules.length + 1) c9)) ⟨g7, .slice A9 (s2.rules.length + 1) c9, nv7, gv7, uv7⟩ (ruleS s2 ⟨u.name, n⟩)) := Lib.hid (hSQ.weak (fun k hk => hk.1))
                  have HFZ := Lib.hid (HF8.out.trans ((Fo.of_below (below_drew (Below.refl _ _))).trans (hFQ.weak (fun k hk => hk.1))))
                  have hbr := bud_rule toks s2 ⟨u.name, n⟩ hml2
                  clear hSQ hFQ HGV d3 f3 x0 x1 d3' f3' hgl3' hgl3
                  generalize (w9.setCell ⟨g7, 3, none⟩ (.slice A9 (s2.rules.length + 1) c9)) = Z at *
                  have HPZ : Hid (posAt g7 Z = s2.pos + 1) := Lib.hid (posAt_of HSZ.out)
                  go_upto_region 2 with (fail)
                  obtain ⟨q0, q1, _⟩ := HSZ.out.cs
                  have hglZ := blk_lt HSZ.out.cells
                  have hmx := Kd.C_max HTK.out
                  have q1' : Z.cell? ⟨g7, 1, none⟩ = some (.int .i64 ((s2.pos : Int) + 1)) := q1
                  simp only at q0 hglZ
                  clear q1
                  by_cases hlt : s2.pos + 1 < toks.length
                  · rw [if_pos hlt] at HR0
                    have hdec : decide ((s2.pos : Int) + 1 < (toks.length : Int)) = true := decide_eq_true (by omega)
                    go_quiet (fail)
                    have HZ2 := Lib.hid (HSZ.out.below (pw_below_drewN (Below.refl Z.heap.size Z) nq))
                    have HFZ2 := Lib.hid (HFZ.out.trans (Fo.of_below (pw_below_drewN (Below.refl Z.heap.size Z) nq)))
                    have HPZ2 : Hid (posAt g7 (Z.drewN nq) = s2.pos + 1) := HPZ
                    go_wp2_with fail
                    go_roundw
                    case rel => exact ⟨true, f', ruleS s2 ⟨u.name, n⟩, _, nv7, gv7, uv7, rfl, Lib.hid ⟨HR0.out.symm, by show _ < f' + (s2.pos + 1); omega, by show s2.pos + 1 ≤ _; omega, by show s2.given.length ≤ s2.pos + 1; omega, by show (s2.rules ++ [_]).length ≤ s2.pos + 1; simp; omega, by omega⟩, HZ2, HFZ2⟩
                    case measure => have h1 : posAt g7 wo = s1.pos := HP.out; have h2 : posAt g7 (Z.drewN nq) = s2.pos + 1 := HPZ2.out; rw [h1, h2]; simp only [boolN]; omega
                  · rw [if_neg hlt] at HR0
                    have hdec : decide ((s2.pos : Int) + 1 < (toks.length : Int)) = false := decide_eq_false (by omega)
                    go_quiet (fail)
                    have HZ2 := Lib.hid (HSZ.out.below (pw_below_drewN (Below.refl Z.heap.size Z) nq))
                    have HFZ2 := Lib.hid (HFZ.out.trans (Fo.of_below (pw_below_drewN (Below.refl Z.heap.size Z) nq)))
                    have HPZ2 : Hid (posAt g7 (Z.drewN nq) = s2.pos + 1) := HPZ
                    go_wp2_with fail
                    go_roundw
                    case rel => exact ⟨false, 0, ruleS s2 ⟨u.name, n⟩, _, nv7, gv7, uv7, rfl, Lib.hid ⟨HR0.out, by show s2.pos + 1 ≤ _; omega⟩, HZ2, HFZ2⟩
                    case measure => have h1 : posAt g7 wo = s1.pos := HP.out; have h2 : posAt g7 (Z.drewN nq) = s2.pos + 1 := HPZ2.out; rw [h1, h2]; simp only [boolN]; omega
end Go.Proofs.Ytoiejgmfgcdniaa
namespace Go.Proofs.Ytoiejgmfgcdniaa
open Go.RowKit Go.Proofs.YtoiejgmfgcdniaaW.PrintWords

/-! ### parse -/
theorem assert_yes (w : World) (v : Value) : (Instr.typeAssert (.iface 184 v) 20 184 true).run Try.prog w = .ok (.tuple #[v, .bool true]) w := by kernel_rfl
theorem assert_nil (w : World) : (Instr.typeAssert .nilIface 20 184 true).run Try.prog w = .ok (.tuple #[.int .i64 0, .bool false]) w := by kernel_rfl
set_option maxRecDepth 100000 in
theorem catch_wrong (p : Addr) (x y : Int) (older : List PanicEntry) (w : World) (hc : w.cell? p = some (.int .i64 x)) (hz : w.frozen? p = false) :
    CallsD Try.prog 108 #[.pointer (some p)] (.panicking ({ v := .iface 184 (.int .i64 y), recovered := false } :: older)) w fun e u' w' =>
      e = .returned (.tuple #[]) ∧ u' = .panicking ({ v := .iface 184 (.int .i64 y), recovered := true } :: older) ∧ w' = w.setCell p (.int .i64 y) := by
  refine callsD_of_wpS Try.func108 rfl fun c₀ cs hu => ?_
  apply wpS_seq
  apply wpS_region
  simp [wpOpsS, go_sem, recoverD, hu, Try.ntmps108, Exit.thenS, assert_yes]
  apply wpS_seq
  apply wpS_region
  simp [wpOpsS, go_sem, Exit.thenS]
  refine wpS_cond (t := true) (by simp [Act.eval, Array.replicate]) ?_
  simp only [if_true]
  apply wpS_region
  simp [wpOpsS, go_sem, hc, hz, bodyPostS, results, Try.results108]
set_option maxRecDepth 100000 in
theorem catch_none (p : Addr) (w : World) :
    CallsD Try.prog 108 #[.pointer (some p)] .returning w fun e u' w' => e = .returned (.tuple #[]) ∧ u' = .returning ∧ w' = w := by
  refine callsD_of_wpS Try.func108 rfl fun c₀ cs hu => ?_
  apply wpS_seq
  apply wpS_region
  simp [wpOpsS, go_sem, recoverD, hu, Try.ntmps108, Exit.thenS, assert_nil]
  apply wpS_seq
  apply wpS_region
  simp [wpOpsS, go_sem, Exit.thenS]
  refine wpS_cond (t := false) (by simp [Act.eval, Array.replicate]) ?_
  simp only [Bool.false_eq_true, if_false]
  refine wpS_of_wp (wp_skip ?_)
  cases c₀
  simp_all [bodyPostS, results, Try.results108]
theorem RSt.farB {B : Nat} {ok : Nat → Prop} {tv : Value} {en : Int} {w : World} {m : RdM} {s : RdS} {b : Nat} (h : RSt B (fun k => ok k ∧ k ≠ b) tv en w m s) (hb : b ≠ m.g) (j : Nat) (u : Value) : RSt B ok tv en (w.setCell ⟨b, j, none⟩ u) m s :=
  ⟨(Below.heap_setCell w ⟨b, j, none⟩ u m.g (Ne.symm hb)).trans h.cells, Kd.R_mono (Kd.R_far h.rules (p := ⟨b, j, none⟩) (fun k hk => hk.2) u) (fun k hk => hk.1), Kd.R_mono (Kd.R_far h.nodes (p := ⟨b, j, none⟩) (fun k hk => hk.2) u) (fun k hk => hk.1),
    Kd.R_mono (Kd.R_far h.given (p := ⟨b, j, none⟩) (fun k hk => hk.1.2) u) (fun k hk => ⟨hk.1.1, hk.2⟩), Kd.R_mono (Kd.R_far h.used (p := ⟨b, j, none⟩) (fun k hk => hk.1.2) u) (fun k hk => ⟨hk.1.1, hk.2⟩), h.g0⟩
theorem Fo.setNew {ok : Nat → Prop} {B g b : Nat} {w w1 : World} (h : Fo ok B g w w1) (hb : w.heap.size ≤ b) (j : Nat) (u : Value) : Fo ok B g w (w1.setCell ⟨b, j, none⟩ u) :=
  ⟨⟨h.fr.os, h.fr.tape, h.fr.output, by rw [size_set]; exact h.size, fun k hk hc => (Below.heap_setCell w1 ⟨b, j, none⟩ u k (by show k ≠ b; omega)).trans (h.fr.block k hk hc)⟩, fun k hk h1 h2 => (Below.heap_setCell w1 ⟨b, j, none⟩ u k (by show k ≠ b; omega)).trans (h.keep k hk h1 h2)⟩
def ParsePost (B : Nat) (ok : Nat → Prop) (tv : Value) (en : Int) (w : World) (g : Nat) (r : Except Int RdS) (e : Ending) (w' : World) : Prop :=
  match r with
  | .ok s => e = .returned (.int .i64 (-1)) ∧ ∃ m, m.g = g ∧ RSt B ok tv en w' m s ∧ Fo ok B g w w'
  | .error p => e = .returned (.int .i64 p) ∧ Fo ok B g w w'
set_option maxRecDepth 100000 in
set_option maxHeartbeats 1000000 in
theorem parse_any (w0 : World) (A : Option Addr) (c : Nat) (toks : List Tok) (en : Int) (F : Nat) (hF : toks.length < F) (ht : Kd.C kTok w0 A toks.length toks) (hk : Kinds toks) (htl : toks.length ≤ 10000)
    (ok : Nat → Prop) (w : World) (m : RdM) (s : RdS) (hw : Below w0.heap.size w0 w) (h : RSt w0.heap.size ok (.slice A toks.length c) en w m s) (hfr : ∀ k, w.heap.size ≤ k → ok k)
    (hs0 : s.pos = 0) (hgv : s.given = []) (hrv : s.rules = []) (hb : bud toks s ≤ 100000) :
    Calls Try.prog 57 #[.pointer (some ⟨m.g, 0, none⟩)] w (ParsePost w0.heap.size ok (.slice A toks.length c) en w m.g (textGo toks en (altF toks en F) (toks.length + 1) s)) := by
  have hne : w.heap.size ≠ m.g := by have := blk_lt h.cells; omega
  have hnew := blk_new w (.cells #[.int .i64 0] 3)
  have HBL := Lib.hid (below_alloc (Below.refl w.heap.size w) (.cells #[.int .i64 0] 3))
  have HSZ := Lib.hid (size_alloc w (.cells #[.int .i64 0] 3))
  have HNEW := Lib.hid hnew
  have HFR := Lib.hid hfr
  have HW := Lib.hid hw
  have HTX := Lib.hid (text_any w0 A c toks en F hF ht hk htl (fun k => ok k ∧ k ≠ w.heap.size) (w.alloc (.cells #[.int .i64 0] 3)) m s (hw.trans (HBL.out.mono hw.size)) ((h.bound.weak (fun k hk => (⟨hk.1, by omega⟩ : ok k ∧ k ≠ w.heap.size))).below HBL.out) (fun k hk => ⟨hfr k (by rw [HSZ.out] at hk; omega), by rw [HSZ.out] at hk; omega⟩) hs0 hgv hrv hb)
  generalize textGo toks en (altF toks en F) (toks.length + 1) s = R at HTX ⊢
  have hmf : ∀ (fn : Fn) (first cap : Array Value) (w : World), (Instr.makeFunc fn first cap).run Try.prog w = .ok (.func fn first cap) w := fun _ _ _ _ => rfl
  clear h hw hfr ht hk hs0 hgv hrv hb hnew
  go_enter_defers Try.func57, Try.ntmps57
  go_wp2_with fail
  refine HTX.out.mono ?_
  intro e w2 hp
  cases R with
  | error p =>
    obtain ⟨he, hF2⟩ := hp
    unfold Wrong at he
    subst he
    have hX := hF2.keep w.heap.size (by rw [HSZ.out]; omega) (fun h => h.2 rfl) hne
    have hcell := hX.trans HNEW.out
    have hc0 : w2.cell? ⟨w.heap.size, 0, none⟩ = some (.int .i64 0) := (blk_cell hcell 0).trans rfl
    have hf0 := blk_frozen hcell 0
    have HF2 := Lib.hid (((Fo.of_below HBL.out).trans (hF2.weak (fun k hk => hk.1))).setNew (Nat.le_refl _) 0 (.int .i64 p))
    clear hF2 hX
    go_wp2_with fail
    refine leaves_cons (f := 108) (args := #[.pointer (some ⟨w.heap.size, 0, none⟩)]) (by simp) (by simp [go_sem]) ?_
    refine (catch_wrong ⟨w.heap.size, 0, none⟩ 0 p [] w2 hc0 hf0).mono ?_
    rintro e u' w'' ⟨rfl, rfl, rfl⟩
    have hc1 : (w2.setCell ⟨w.heap.size, 0, none⟩ (.int .i64 p)).cell? ⟨w.heap.size, 0, none⟩ = some (.int .i64 p) := (blk_cell ((blk_set hcell 0 _).trans rfl) 0).trans rfl
    simp [Leaves, settle, results, Try.results57, go_sem, hc1]
    exact ⟨rfl, HF2.out⟩
  | ok s2 =>
    obtain ⟨rfl, m2, hg2, hS2, hF2⟩ := hp
    have hX := hF2.keep w.heap.size (by rw [HSZ.out]; omega) (fun h => h.2 rfl) hne
    have hcell := hX.trans HNEW.out
    have hc0 : w2.cell? ⟨w.heap.size, 0, none⟩ = some (.int .i64 0) := (blk_cell hcell 0).trans rfl
    have hf0 := blk_frozen hcell 0
    have HF2 := Lib.hid (((Fo.of_below HBL.out).trans (hF2.weak (fun k hk => hk.1))).setNew (Nat.le_refl _) 0 (.int .i64 (-1)))
    have HS2 := Lib.hid (hS2.farB (by rw [hg2]; exact hne) 0 (.int .i64 (-1)))
    have hltw := blk_lt hcell
    clear hF2 hX hS2
    go_wp2_with fail
    refine leaves_cons (f := 108) (args := #[.pointer (some ⟨w.heap.size, 0, none⟩)]) (by simp) (by simp [go_sem]) ?_
    refine (catch_none ⟨w.heap.size, 0, none⟩ _).mono ?_
    rintro e u' w'' ⟨rfl, rfl, rfl⟩
    have hc1 : (w2.setCell ⟨w.heap.size, 0, none⟩ (.int .i64 (-1))).cell? ⟨w.heap.size, 0, none⟩ = some (.int .i64 (-1)) := (blk_cell ((blk_set hcell 0 _).trans rfl) 0).trans rfl
    simp [Leaves, settle, results, Try.results57, go_sem, hc1]
    exact ⟨rfl, m2, hg2, HS2.out, HF2.out⟩
end Go.Proofs.Ytoiejgmfgcdniaa
