import Derived.Test.YtoiejgmfgcdniaaRead17
import Derived.Defers
import Derived.Recover
set_option linter.unusedVariables false
set_option linter.unusedSimpArgs false
namespace Go.Proofs.Ytoiejgmfgcdniaa
open Go.RowKit Go.Proofs.YtoiejgmfgcdniaaW.PrintWords

/-! ### parse -/
theorem assert_yes (w : World) (v : Value) : (Instr.typeAssert (.iface 184 v) 20 184 true).run Try.prog w = .ok (.tuple #[v, .bool true]) w := by kernel_rfl
theorem assert_nil (w : World) : (Instr.typeAssert .nilIface 20 184 true).run Try.prog w = .ok (.tuple #[.int .i64 0, .bool false]) w := by kernel_rfl
set_option maxRecDepth 100000 in
theorem catch_wrong (p : Addr) (x y : Int) (older : List PanicEntry) (w : World) (hc : w.cell? p = some (.int .i64 x)) (hz : w.frozen? p = false) :
    CallsD Try.prog 108 #[.pointer (some p)] (.panicking ({ v := .iface 184 (.int .i64 y), recovered := false } :: older)) w fun e u' w' =>
      e = .returned (.tuple #[]) ∧ u' = .panicking ({ v := .iface 184 (.int .i64 y), recovered := true } :: older) ∧ w' = w.setCell p (.int .i64 y) := by
  refine callsD_of_wpS Try.func108 rfl fun c₀ cs hu => ?_
  apply wpS_seq
  apply wpS_region
  simp [wpOpsS, go_sem, recoverD, hu, Try.ntmps108, Exit.thenS, assert_yes]
  apply wpS_seq
  apply wpS_region
  simp [wpOpsS, go_sem, Exit.thenS]
  refine wpS_cond (t := true) (by simp [Act.eval, Array.replicate]) ?_
  simp only [if_true]
  apply wpS_region
  simp [wpOpsS, go_sem, hc, hz, bodyPostS, results, Try.results108]
set_option maxRecDepth 100000 in
theorem catch_none (p : Addr) (w : World) :
    CallsD Try.prog 108 #[.pointer (some p)] .returning w fun e u' w' => e = .returned (.tuple #[]) ∧ u' = .returning ∧ w' = w := by
  refine callsD_of_wpS Try.func108 rfl fun c₀ cs hu => ?_
  apply wpS_seq
  apply wpS_region
  simp [wpOpsS, go_sem, recoverD, hu, Try.ntmps108, Exit.thenS, assert_nil]
  apply wpS_seq
  apply wpS_region
  simp [wpOpsS, go_sem, Exit.thenS]
  refine wpS_cond (t := false) (by simp [Act.eval, Array.replicate]) ?_
  simp only [Bool.false_eq_true, if_false]
  refine wpS_of_wp (wp_skip ?_)
  cases c₀
  simp_all [bodyPostS, results, Try.results108]
theorem RSt.farB {B : Nat} {ok : Nat → Prop} {tv : Value} {en : Int} {w : World} {m : RdM} {s : RdS} {b : Nat} (h : RSt B (fun k => ok k ∧ k ≠ b) tv en w m s) (hb : b ≠ m.g) (j : Nat) (u : Value) : RSt B ok tv en (w.setCell ⟨b, j, none⟩ u) m s :=
  ⟨(Below.heap_setCell w ⟨b, j, none⟩ u m.g (Ne.symm hb)).trans h.cells, Kd.R_mono (Kd.R_far h.rules (p := ⟨b, j, none⟩) (fun k hk => hk.2) u) (fun k hk => hk.1), Kd.R_mono (Kd.R_far h.nodes (p := ⟨b, j, none⟩) (fun k hk => hk.2) u) (fun k hk => hk.1),
    Kd.R_mono (Kd.R_far h.given (p := ⟨b, j, none⟩) (fun k hk => hk.1.2) u) (fun k hk => ⟨hk.1.1, hk.2⟩), Kd.R_mono (Kd.R_far h.used (p := ⟨b, j, none⟩) (fun k hk => hk.1.2) u) (fun k hk => ⟨hk.1.1, hk.2⟩), h.g0⟩
theorem Fo.setNew {ok : Nat → Prop} {B g b : Nat} {w w1 : World} (h : Fo ok B g w w1) (hb : w.heap.size ≤ b) (j : Nat) (u : Value) : Fo ok B g w (w1.setCell ⟨b, j, none⟩ u) :=
  ⟨⟨h.fr.os, h.fr.tape, h.fr.output, by rw [size_set]; exact h.size, fun k hk hc => (Below.heap_setCell w1 ⟨b, j, none⟩ u k (by show k ≠ b; omega)).trans (h.fr.block k hk hc)⟩, fun k hk h1 h2 => (Below.heap_setCell w1 ⟨b, j, none⟩ u k (by show k ≠ b; omega)).trans (h.keep k hk h1 h2)⟩
def ParsePost (B : Nat) (ok : Nat → Prop) (tv : Value) (en : Int) (w : World) (g : Nat) (r : Except Int RdS) (e : Ending) (w' : World) : Prop :=
  match r with
  | .ok s => e = .returned (.int .i64 (-1)) ∧ ∃ m, m.g = g ∧ RSt B ok tv en w' m s ∧ Fo ok B g w w'
  | .error p => e = .returned (.int .i64 p) ∧ Fo ok B g w w'
set_option maxRecDepth 100000 in
set_option maxHeartbeats 1000000 in
theorem parse_any (w0 : World) (A : Option Addr) (c : Nat) (toks : List Tok) (en : Int) (F : Nat) (hF : toks.length < F) (ht : Kd.C kTok w0 A toks.length toks) (hk : Kinds toks) (htl : toks.length ≤ 10000)
    (ok : Nat → Prop) (w : World) (m : RdM) (s : RdS) (hw : Below w0.heap.size w0 w) (h : RSt w0.heap.size ok (.slice A toks.length c) en w m s) (hfr : ∀ k, w.heap.size ≤ k → ok k)
    (hs0 : s.pos = 0) (hgv : s.given = []) (hrv : s.rules = []) (hb : bud toks s ≤ 100000) :
    Calls Try.prog 57 #[.pointer (some ⟨m.g, 0, none⟩)] w (ParsePost w0.heap.size ok (.slice A toks.length c) en w m.g (textGo toks en (altF toks en F) (toks.length + 1) s)) := by
  have hne : w.heap.size ≠ m.g := by have := blk_lt h.cells; omega
  have hnew := blk_new w (.cells #[.int .i64 0] 3)
  have HBL := Lib.hid (below_alloc (Below.refl w.heap.size w) (.cells #[.int .i64 0] 3))
  have HSZ := Lib.hid (size_alloc w (.cells #[.int .i64 0] 3))
  have HNEW := Lib.hid hnew
  have HFR := Lib.hid hfr
  have HW := Lib.hid hw
  have HTX := Lib.hid (text_any w0 A c toks en F hF ht hk htl (fun k => ok k ∧ k ≠ w.heap.size) (w.alloc (.cells #[.int .i64 0] 3)) m s (hw.trans (HBL.out.mono hw.size)) ((h.bound.weak (fun k hk => (⟨hk.1, by omega⟩ : ok k ∧ k ≠ w.heap.size))).below HBL.out) (fun k hk => ⟨hfr k (by rw [HSZ.out] at hk; omega), by rw [HSZ.out] at hk; omega⟩) hs0 hgv hrv hb)
  generalize textGo toks en (altF toks en F) (toks.length + 1) s = R at HTX ⊢
  have hmf : ∀ (fn : Fn) (first cap : Array Value) (w : World), (Instr.makeFunc fn first cap).run Try.prog w = .ok (.func fn first cap) w := fun _ _ _ _ => rfl
  clear h hw hfr ht hk hs0 hgv hrv hb hnew
  go_enter_defers Try.func57, Try.ntmps57
  go_wp2_with fail
  refine HTX.out.mono ?_
  intro e w2 hp
  cases R with
  | error p =>
    obtain ⟨he, hF2⟩ := hp
    unfold Wrong at he
    subst he
    have hX := hF2.keep w.heap.size (by rw [HSZ.out]; omega) (fun h => h.2 rfl) hne
    have hcell := hX.trans HNEW.out
    have hc0 : w2.cell? ⟨w.heap.size, 0, none⟩ = some (.int .i64 0) := (blk_cell hcell 0).trans rfl
    have hf0 := blk_frozen hcell 0
    have HF2 := Lib.hid (((Fo.of_below HBL.out).trans (hF2.weak (fun k hk => hk.1))).setNew (Nat.le_refl _) 0 (.int .i64 p))
    clear hF2 hX
    go_wp2_with fail
    refine leaves_cons (f := 108) (args := #[.pointer (some ⟨w.heap.size, 0, none⟩)]) (by simp) (by simp [go_sem]) ?_
    refine (catch_wrong ⟨w.heap.size, 0, none⟩ 0 p [] w2 hc0 hf0).mono ?_
    rintro e u' w'' ⟨rfl, rfl, rfl⟩
    have hc1 : (w2.setCell ⟨w.heap.size, 0, none⟩ (.int .i64 p)).cell? ⟨w.heap.size, 0, none⟩ = some (.int .i64 p) := (blk_cell ((blk_set hcell 0 _).trans rfl) 0).trans rfl
    simp [Leaves, settle, results, Try.results57, go_sem, hc1]
    exact ⟨rfl, HF2.out⟩
  | ok s2 =>
    obtain ⟨rfl, m2, hg2, hS2, hF2⟩ := hp
    have hX := hF2.keep w.heap.size (by rw [HSZ.out]; omega) (fun h => h.2 rfl) hne
    have hcell := hX.trans HNEW.out
    have hc0 : w2.cell? ⟨w.heap.size, 0, none⟩ = some (.int .i64 0) := (blk_cell hcell 0).trans rfl
    have hf0 := blk_frozen hcell 0
    have HF2 := Lib.hid (((Fo.of_below HBL.out).trans (hF2.weak (fun k hk => hk.1))).setNew (Nat.le_refl _) 0 (.int .i64 (-1)))
    have HS2 := Lib.hid (hS2.farB (by rw [hg2]; exact hne) 0 (.int .i64 (-1)))
    have hltw := blk_lt hcell
    clear hF2 hX hS2
    go_wp2_with fail
    refine leaves_cons (f := 108) (args := #[.pointer (some ⟨w.heap.size, 0, none⟩)]) (by simp) (by simp [go_sem]) ?_
    refine (catch_none ⟨w.heap.size, 0, none⟩ _).mono ?_
    rintro e u' w'' ⟨rfl, rfl, rfl⟩
    have hc1 : (w2.setCell ⟨w.heap.size, 0, none⟩ (.int .i64 (-1))).cell? ⟨w.heap.size, 0, none⟩ = some (.int .i64 (-1)) := (blk_cell ((blk_set hcell 0 _).trans rfl) 0).trans rfl
    simp [Leaves, settle, results, Try.results57, go_sem, hc1]
    exact ⟨rfl, m2, hg2, HS2.out, HF2.out⟩
end Go.Proofs.Ytoiejgmfgcdniaa
