import Derived.Test.YtoiejgmfgcdniaaRead10
set_option linter.unusedVariables false
set_option linter.unusedSimpArgs false
namespace Go.Proofs.Ytoiejgmfgcdniaa
open Go.RowKit Go.Proofs.YtoiejgmfgcdniaaW.PrintWords

/-! ### atom -/
theorem sizeFr {B : Nat} {w w1 : World} {ok : Nat → Prop} (h : ∀ k, w.heap.size ≤ k → ok k) (hs : w.heap.size ≤ w1.heap.size) : ∀ k, w1.heap.size ≤ k → ok k := fun k hk => h k (Nat.le_trans hs hk)
set_option maxRecDepth 100000 in
set_option maxHeartbeats 2000000 in
theorem atom_open (w0 : World) (A : Option Addr) (c : Nat) (toks : List Tok) (en : Int) (f : Nat) (alt : RdS → RP) (halt : AltSaid w0 A c toks en f alt) (hmono : Mono toks alt) (ht : Kd.C kTok w0 A toks.length toks)
    (ok : Nat → Prop) (w : World) (m : RdM) (s : RdS) (hw : Below w0.heap.size w0 w) (h : RSt w0.heap.size ok (.slice A toks.length c) en w m s) (hfr : ∀ k, w.heap.size ≤ k → ok k) (hf : toks.length < f + 1 + s.pos) (hb : bud toks s ≤ 1000000)
    (hm : isMark toks s.pos (mkB 40) = true) :
    Calls Try.prog 200 #[.pointer (some ⟨m.g, 0, none⟩)] w (RPPost w0.heap.size ok (.slice A toks.length c) en w m.g (atomW toks en alt s)) := by
  have H := Lib.hid h
  have HW := Lib.hid hw
  have HK := Lib.hid ht
  have HA := Lib.hid halt
  have HFR := Lib.hid hfr
  have HM := Lib.hid hm
  have hlt := isMark_lt hm
  have hbs := bud_step toks s hlt
  have HT : Hid (takeS toks s (mkB 40) = stepS s) := Lib.hid (by unfold takeS; rw [if_pos hm]; rfl)
  have HQ : Hid (atomW toks en alt s = match alt (stepS s) with | .error p => .error p | .ok (n, s1) => if isMark toks s1.pos (mkB 41) then .ok (n, stepS s1) else .error (failP toks en s1.pos)) := Lib.hid (by unfold atomW; rw [if_pos hm]; cases alt (stepS s) <;> rfl)
  clear h hw ht halt hfr hm
  generalize atomW toks en alt s = res at HQ ⊢
  go_enter Try.func200, Try.ntmps200
  go_wp2_with fail
  refine (take_any w0.heap.size ok A c toks en w m s (mkB 40) H.out (Kd.C_below HK.out HW.out)).mono ?_
  rintro e w1 ⟨rfl, hS, hF⟩
  rw [HM.out]
  rw [HT.out] at hS
  have H1 := Lib.hid hS
  have HF1 := Lib.hid hF
  clear hS hF
  go_wp2_with fail
  refine (HA.out ok w1 m (stepS s) (HW.out.trans (HF1.out.toBelow HW.out.size)) H1.out (sizeFr (B := 0) HFR.out HF1.out.size) (by show s.pos + 1 ≤ _; omega) (by show toks.length < f + (s.pos + 1); omega) (by omega)).mono ?_
  intro e w2 hp
  cases hal : alt (stepS s) with
  | error p =>
    rw [hal] at hp HQ
    obtain ⟨he, hF2⟩ := hp
    unfold Wrong at he
    subst he
    have HF2 := Lib.hid (HF1.out.trans hF2)
    clear hF2 hal
    go_wp2_with fail
    refine ⟨rfl, ?_⟩
    rw [HQ.out]
    exact ⟨rfl, HF2.out⟩
  | ok r =>
    obtain ⟨n, s1⟩ := r
    rw [hal] at hp HQ
    obtain ⟨he, m2, hg2, hS2, hF2⟩ := hp
    subst he
    have HS2 := Lib.hid hS2
    have HF2 := Lib.hid (HF1.out.trans hF2)
    clear hF2 hal hS2
    simp only at HQ
    obtain ⟨g, rv, nv, gv, uv⟩ := m
    simp only at hg2
    go_wp2_with fail
    have hmust := must_any w0 ok A c toks en w2 m2 s1 (mkB 41) HK.out (HW.out.trans (HF2.out.toBelow HW.out.size)) HS2.out
    rw [hg2] at hmust
    refine hmust.mono ?_
    intro e w3 hp3
    unfold MustPost at hp3
    cases hm2 : isMark toks s1.pos (mkB 41)
    · rw [if_neg (by simp [hm2])] at hp3
      obtain ⟨he, hF3⟩ := hp3
      unfold Wrong at he
      subst he
      rw [hm2] at HQ
      have HF3 := Lib.hid (HF2.out.trans (hg2 ▸ hF3))
      clear hF3 hmust hm2
      go_wp2_with fail
      refine ⟨rfl, ?_⟩
      rw [HQ.out]
      exact ⟨rfl, HF3.out⟩
    · rw [if_pos hm2] at hp3
      obtain ⟨he, hS3, hF3⟩ := hp3
      subst he
      rw [hm2] at HQ
      have HS3 := Lib.hid hS3
      have HF3 := Lib.hid (HF2.out.trans (hg2 ▸ hF3))
      clear hF3 hS3 hmust hm2
      go_wp2_with fail
      go_ret
      rw [HQ.out]
      exact ⟨rfl, m2, hg2, HS3.out, HF3.out⟩
end Go.Proofs.Ytoiejgmfgcdniaa
