import Derived.Test.YtoiejgmfgcdniaaXRead18
import Derived.Test.YtoiejgmfgcdniaaXPlain1
set_option linter.unusedVariables false
set_option linter.unusedSimpArgs false
namespace Go.Proofs.Ytoiejgmfgcdniaa
open Go.RowKit Go.Proofs.YtoiejgmfgcdniaaW.PrintWords
open Go.Maps (Keyed)

/-! ### names -/
def inB (x : ByteArray) (L : List ByteArray) : Bool := L.any (fun y => decide (y = x))
theorem inB_snoc (x y : ByteArray) (L : List ByteArray) : inB x (L ++ [y]) = (inB x L || decide (y = x)) := by unfold inB; rw [List.any_append]; simp
def twiceGo (seen : List ByteArray) : List Use → Option Int
  | [] => none
  | u :: us => if inB u.name seen then some u.pos else twiceGo (seen ++ [u.name]) us
def lackGo (known : List ByteArray) : List Use → Option Int
  | [] => none
  | u :: us => if inB u.name known then lackGo known us else some u.pos
def lackP (gs us : List Use) : Int × Int := match lackGo (gs.map Use.name) us with | some p => (p, 6) | none => (0, 0)
def namesP (gs us : List Use) : Int × Int := match twiceGo [] gs with | some p => (p, 7) | none => lackP gs us
def seenF (L : List ByteArray) (k : ByteArray) : Option Int := if inB k L then some 1 else none
theorem seenF_snoc (L : List ByteArray) (x k : ByteArray) : seenF (L ++ [x]) k = upd (seenF L) x 1 k := by
  unfold seenF upd
  rw [inB_snoc]
  by_cases h : k = x
  · subst h; simp
  · rw [if_neg h, decide_eq_false (fun e => h e.symm), Bool.or_false]
def SeenMap (w : World) (b : Nat) (L : List ByteArray) : Prop := ∃ sz, MapRep 9 klS w b L.length (seenF L) sz
theorem SeenMap.below {w w1 : World} {b : Nat} {L : List ByteArray} (h : SeenMap w b L) (hb : Below w.heap.size w w1) : SeenMap w1 b L := by
  obtain ⟨sz, h⟩ := h
  exact ⟨sz, h.move (hb.block _ h.lt)⟩
theorem SeenMap.look {w : World} {b : Nat} {L : List ByteArray} (h : SeenMap w b L) (x : ByteArray) (hx : x.size ≤ maxLen) : (Instr.lookup 95 (.map (some b)) (.string x) false).run Try.prog w = .ok (.int .i64 (if inB x L then 1 else 0)) w := by
  obtain ⟨sz, h⟩ := h
  rw [h.look lawS Try.underlying95 (keyS x hx)]
  unfold seenF
  split <;> rfl
theorem wpList_seen {b : Nat} {L : List ByteArray} (w : World) {ops : Array Oper} {rest : List Oper} {o : Oper} {a : Act} {Q : Exit → Act → World → Prop}
    (hg : o.guard = none) (m x v : Operand) (hop : o.op = Op.mapUpdate 95 m x v)
    (hm : a.eval m = .map (some b)) (h : SeenMap w b L) (hn : L.length < maxLen) {key : ByteArray} (hx : a.eval x = .string key) (hk : key.size ≤ maxLen) {c : Int} (hv : a.eval v = .int .i64 c) (hc : (Lit.int .i64 c).wf = true)
    (hK : ∀ w', (c = 1 → SeenMap w' b (L ++ [key])) → (Instr.lookup 95 (.map (some b)) (.string key) false).run Try.prog w' = .ok (.int .i64 c) w' → w.grownBy w' (some b) → wpList Try.prog ops Q rest (a.put o.dst undef) w') :
    wpList Try.prog ops Q (o :: rest) a w := by
  obtain ⟨sz, h⟩ := h
  refine wpList_put w hg m x v hop lawS Try.underlying95 klS_inj hm h hn hx (keyS key hk) hv hc ?_
  intro w' r1 r2 r3
  refine hK w' (fun e => ?_) ?_ r2
  · subst e
    exact ⟨_, by rw [List.length_append, List.length_singleton]; exact r1.congr (seenF_snoc L key)⟩
  · rw [r1.look lawS Try.underlying95 (keyS key hk)]
    simp [upd]
set_option maxRecDepth 100000 in
set_option maxHeartbeats 4000000 in
theorem names_any (g : Nat) (gs us : List Use) (A5 A6 : Option Addr) (c5 c6 : Nat) (w : World) (d5 : w.cell? ⟨g, 5, none⟩ = some (.slice A5 gs.length c5)) (d6 : w.cell? ⟨g, 6, none⟩ = some (.slice A6 us.length c6)) (hgl : g < w.heap.size)
    (h5 : Kd.C kUse w A5 gs.length gs) (h6 : Kd.C kUse w A6 us.length us) (hgn : ∀ u, u ∈ gs → u.name.size ≤ maxLen) (hun : ∀ u, u ∈ us → u.name.size ≤ maxLen) :
    Calls Try.prog 58 #[.pointer (some ⟨g, 0, none⟩)] w fun e w' => e = .returned (.tuple #[.int .i64 (namesP gs us).1, .int .i64 (namesP gs us).2]) ∧ Below w.heap.size w w' := by
  have H5 := Lib.hid h5
  have H6 := Lib.hid h6
  have HGN := Lib.hid hgn
  have HUN := Lib.hid hun
  have hm5 := Kd.C_max h5
  have hm6 := Kd.C_max h6
  have hmm : ∀ w0, (Instr.makeMap 95 none).run Try.prog w0 = .ok (.map (some w0.heap.size)) (w0.alloc (.map #[] 0)) := fun _ => rfl
  have HR : Hid (namesP gs us = match twiceGo [] gs with | some p => (p, 7) | none => lackP gs us) := Lib.hid rfl
  generalize namesP gs us = res at HR ⊢
  clear h5 h6 hgn hun
  go_enter Try.func58, Try.ntmps58
  go_wp2_with fail
  clear hmm
  have hmk : SeenMap (w.alloc (.map #[] 0)) w.heap.size [] := ⟨_, (MapRep.made w 9 klS).congr (fun x => rfl)⟩
  have hb0 := Lib.hid (below_alloc (Below.refl w.heap.size w) (.map #[] 0))
  have HMK := Lib.hid hmk
  have D6 := Lib.hid d6
  generalize w.alloc (.map #[] 0) = W at *
  clear hmk d5 d6
  go_loopw [15] (fun i wr => ∃ k : Nat, k ≤ gs.length ∧ i = .int .i64 k ∧ Hid (SeenMap wr w.heap.size ((gs.take k).map Use.name)) ∧ Hid (Below w.heap.size w wr) ∧ Hid (twiceGo [] gs = twiceGo ((gs.take k).map Use.name) (gs.drop k))) (fun i _ => gs.length - (intOf i).toNat)
  case atStart => exact ⟨0, Nat.zero_le _, rfl, HMK, hb0, Lib.hid rfl⟩
  case round =>
    obtain ⟨k, hk, rfl, HM, HB, HT⟩ := hrel
    by_cases hlt : k < gs.length
    · obtain ⟨ad, x, rfl, hx, e0, e1⟩ := at_Use (Kd.C_below H5.out HB.out) k hlt
      have hxn := HGN.out x (List.mem_of_getElem? hx)
      have HX := Lib.hid (take_of hx)
      have HT2 : Hid (twiceGo [] gs = if inB x.name ((gs.take k).map Use.name) then some x.pos else twiceGo ((gs.take (k + 1)).map Use.name) (gs.drop (k + 1))) := Lib.hid (by rw [HT.out, drop_of hx, twiceGo, take_of hx, List.map_append]; rfl)
      have hlen : ((gs.take k).map Use.name).length ≤ k := by rw [List.length_map]; exact List.length_take_le _ _
      have hbw := below_alloc (Below.refl wr.heap.size wr) (.cells #[.string x.name, .int .i64 x.pos] 187)
      have HM2 := Lib.hid (HM.out.below hbw)
      have HB2 := Lib.hid (blw HB.out hbw)
      have hlk := HM2.out.look x.name hxn
      have hltw := Lib.hid (Nat.lt_of_lt_of_le hgl HB.out.size)
      have hgx := blk_new wr (.cells #[.string x.name, .int .i64 x.pos] 187)
      have HGX := Lib.hid hgx
      have hbne : wr.heap.size ≠ w.heap.size := by have : w.heap.size < wr.heap.size := by { obtain ⟨sz, h⟩ := HM.out; exact h.lt }; omega
      clear hx hbw hgx HM HB HT hgl
      cases hin : inB x.name ((gs.take k).map Use.name)
      · rw [if_neg (fun h => by rw [hin] at h; cases h)] at HT2
        rw [hin] at hlk
        simp only [Bool.false_eq_true, if_false] at hlk
        go_wp2_with (at_mapUpdate; refine wpList_seen _ rfl (.tmp 19) (.tmp 21) (.tmp 23) rfl rfl HM2.out (by unfold maxLen; omega) rfl hxn (c := 1) rfl (WalkArith.wf_i64 (by decide)) ?_; intro w3 hs hlk3 hg; have HS3 := Lib.hid hs; have HB3 := Lib.hid (pw_below_grown HB2.out _ HB2.out.size hg (fun k hk => by cases hk; exact Nat.le_refl _)); have hgx3 := (hg.block _ (blk_lt HGX.out) (fun e => hbne (Option.some.inj e))).trans HGX.out; obtain ⟨z0, z1⟩ := cells2 hgx3; have hlt3 := blk_lt hgx3; clear hs hg hlk hgx3 e0 e1)
        go_roundw
        case rel => exact ⟨k + 1, by omega, by go_num, by rw [HX.out, List.map_append]; exact Lib.hid (HS3.out rfl), HB3, Lib.hid HT2.out⟩
        case measure => simp [intOf]; omega
      · rw [if_pos hin] at HT2
        rw [hin] at hlk
        simp only [if_true] at hlk
        rw [HT2.out] at HR
        simp only at HR
        go_wp2_with (at_mapUpdate; refine wpList_seen _ rfl (.tmp 19) (.tmp 21) (.tmp 23) rfl rfl HM2.out (by unfold maxLen; omega) rfl hxn (c := 2) rfl (WalkArith.wf_i64 (by decide)) ?_; intro w3 hs hlk3 hg; have HS3 := Lib.hid hs; have HB3 := Lib.hid (pw_below_grown HB2.out _ HB2.out.size hg (fun k hk => by cases hk; exact Nat.le_refl _)); have hgx3 := (hg.block _ (blk_lt HGX.out) (fun e => hbne (Option.some.inj e))).trans HGX.out; obtain ⟨z0, z1⟩ := cells2 hgx3; have hlt3 := blk_lt hgx3; clear hs hg hlk hgx3 e0 e1)
        go_ret2
        rw [HR.out]
        exact ⟨rfl, HB3.out⟩
    · obtain rfl : k = gs.length := by omega
      have hTn : twiceGo [] gs = none := by rw [HT.out, List.drop_length]; rfl
      rw [hTn] at HR
      have HM1 : Hid (SeenMap wr w.heap.size (gs.map Use.name)) := by have := HM; rwa [List.take_length] at this
      have HL : Hid (res = match lackGo (gs.map Use.name) us with | some p => (p, 6) | none => (0, 0)) := HR
      have d6 := pw_cell_below HB.out D6.out
      have hgw := Nat.lt_of_lt_of_le hgl HB.out.size
      obtain ⟨wo, rfl⟩ : ∃ wo : World, wo = wr := ⟨_, rfl⟩
      clear HR hTn HT HM
      go_wp2_with fail
      clear d6 hgw
      go_loopw [37] (fun i wr => ∃ j : Nat, j ≤ us.length ∧ i = .int .i64 j ∧ Hid (SeenMap wr w.heap.size (gs.map Use.name)) ∧ Hid (Below w.heap.size w wr) ∧ Hid (lackGo (gs.map Use.name) us = lackGo (gs.map Use.name) (us.drop j))) (fun i _ => us.length - (intOf i).toNat)
      case atStart => exact ⟨0, Nat.zero_le _, rfl, HM1, HB, Lib.hid rfl⟩
      case round =>
        clear HM1 HB
        obtain ⟨j, hj, rfl, HM, HB, HT⟩ := hrel
        by_cases hlt : j < us.length
        · obtain ⟨ad, x, rfl, hx, e0, e1⟩ := at_Use (Kd.C_below H6.out HB.out) j hlt
          have hxn := HUN.out x (List.mem_of_getElem? hx)
          have HT2 : Hid (lackGo (gs.map Use.name) us = if inB x.name (gs.map Use.name) then lackGo (gs.map Use.name) (us.drop (j + 1)) else some x.pos) := Lib.hid (by rw [HT.out, drop_of hx, lackGo])
          have hbw := below_alloc (Below.refl wr.heap.size wr) (.cells #[.string x.name, .int .i64 x.pos] 187)
          have HM2 := Lib.hid (HM.out.below hbw)
          have HB2 := Lib.hid (blw HB.out hbw)
          have hlk := HM2.out.look x.name hxn
          clear hx hbw HM HB HT
          cases hin : inB x.name (gs.map Use.name)
          · rw [if_neg (fun h => by rw [hin] at h; cases h)] at HT2
            rw [hin] at hlk
            simp only [Bool.false_eq_true, if_false] at hlk
            rw [HT2.out] at HL
            simp only at HL
            go_wp2_with fail
            go_ret2
            rw [HL.out]
            exact ⟨rfl, HB2.out⟩
          · rw [if_pos hin] at HT2
            rw [hin] at hlk
            simp only [if_true] at hlk
            go_wp2_with fail
            go_roundw
            case rel => exact ⟨j + 1, by omega, by go_num, HM2, HB2, HT2⟩
            case measure => simp [intOf]; omega
        · obtain rfl : j = us.length := by omega
          have hTn : lackGo (gs.map Use.name) us = none := by rw [HT.out, List.drop_length]; rfl
          rw [hTn] at HL
          simp only at HL
          clear hTn HT
          go_wp2_with fail
          go_ret2
          rw [HL.out]
          exact ⟨rfl, HB.out⟩
end Go.Proofs.Ytoiejgmfgcdniaa
namespace Go.Proofs.Ytoiejgmfgcdniaa
open Go.RowKit Go.Proofs.YtoiejgmfgcdniaaW.PrintWords

/-! ### what holds along the whole parser -/
structure Clo (toks : List Tok) (en : Int) (P : RdS → RdS → Prop) (E : Int → Prop) : Prop where
  refl : ∀ s, P s s
  trans : ∀ {a b c}, P a b → P b c → P a c
  step : ∀ s, P s (stepS s)
  lay : ∀ s x, P s (layN s x).2
  use : ∀ s u, nameP toks en s.pos = .ok u → P s { stepS s with used := s.used ++ [u] }
  zero : E 0
  fail : ∀ p, E (failP toks en p)
  name : ∀ s p, nameP toks en s = .error p → E p
def CloR (P : RdS → RdS → Prop) (E : Int → Prop) {α : Type} (s : RdS) : Except Int (α × RdS) → Prop
  | .ok r => P s r.2
  | .error p => E p
section
variable {toks : List Tok} {en : Int} {P : RdS → RdS → Prop} {E : Int → Prop} {alt : RdS → RP}
theorem one_clo (h : Clo toks en P E) (kind : Int) (l : List Int) (s : RdS) : P s (oneP kind l s).2 := by
  unfold oneP
  split
  · exact h.refl _
  · exact h.lay s ⟨kind, ⟨#[]⟩, l⟩
theorem atom_clo (h : Clo toks en P E) (ha : ∀ s, CloR P E s (alt s)) (s : RdS) : CloR P E s (atomW toks en alt s) := by
  unfold atomW
  split
  · have h1 := ha (stepS s)
    cases hal : alt (stepS s) with
    | error p => rw [hal] at h1; exact h1
    | ok r =>
      obtain ⟨n, s1⟩ := r
      rw [hal] at h1
      simp only
      split
      · exact h.trans (h.step s) (h.trans h1 (h.step s1))
      · exact h.fail _
  · cases hx : toks[s.pos]? with
    | none => exact h.zero
    | some x =>
      simp only
      split
      · exact h.trans (h.step s) (h.lay _ _)
      · cases hn : nameP toks en s.pos with
        | error p => exact h.name _ _ hn
        | ok u => exact h.trans (h.use s u hn) (h.lay _ _)
theorem item_clo (h : Clo toks en P E) (ha : ∀ s, CloR P E s (alt s)) (s : RdS) : CloR P E s (itemW toks en alt s) := by
  unfold itemW
  have h1 := atom_clo h ha s
  cases hat : atomW toks en alt s with
  | error p => rw [hat] at h1; exact h1
  | ok r =>
    obtain ⟨n, s1⟩ := r
    rw [hat] at h1
    simp only
    split
    · exact h.trans h1 (h.trans (h.step _) (h.lay _ _))
    split
    · exact h.trans h1 (h.trans (h.step _) (h.lay _ _))
    split
    · exact h.trans h1 (h.trans (h.step _) (h.lay _ _))
    · exact h1
theorem items_clo (h : Clo toks en P E) (ha : ∀ s, CloR P E s (alt s)) : ∀ (f : Nat) (s : RdS) (l : List Int), CloR P E s (itemsGo toks en alt f s l) := by
  intro f
  induction f with
  | zero => intro s l; exact h.refl s
  | succ f ih =>
    intro s l
    rw [itemsGo]
    split
    · have h1 := item_clo h ha s
      cases hi : itemW toks en alt s with
      | error p => rw [hi] at h1; exact h1
      | ok r =>
        obtain ⟨n, s1⟩ := r
        rw [hi] at h1
        simp only
        have h2 := ih s1 (l ++ [n])
        cases hg : itemsGo toks en alt f s1 (l ++ [n]) with
        | error p => rw [hg] at h2; exact h2
        | ok r => rw [hg] at h2; exact h.trans h1 h2
    · exact h.refl s
theorem alts_clo (h : Clo toks en P E) (ha : ∀ s, CloR P E s (alt s)) : ∀ (f : Nat) (s : RdS) (l : List Int), CloR P E s (altsGo toks en alt f s l) := by
  intro f
  induction f with
  | zero => intro s l; exact h.refl s
  | succ f ih =>
    intro s l
    rw [altsGo]
    have h1 := items_clo h ha (toks.length + 1 - s.pos) s []
    cases hi : itemsGo toks en alt (toks.length + 1 - s.pos) s [] with
    | error p => rw [hi] at h1; exact h1
    | ok r =>
      obtain ⟨k, s1⟩ := r
      rw [hi] at h1
      simp only
      have h2 := h.trans h1 (one_clo h 1 k s1)
      split
      · have h3 := ih (stepS (oneP 1 k s1).2) (l ++ [(oneP 1 k s1).1])
        cases hg : altsGo toks en alt f (stepS (oneP 1 k s1).2) (l ++ [(oneP 1 k s1).1]) with
        | error p => rw [hg] at h3; exact h3
        | ok r => rw [hg] at h3; exact h.trans h2 (h.trans (h.step _) h3)
      · exact h2
theorem alt_clo (h : Clo toks en P E) : ∀ (f : Nat) (s : RdS), CloR P E s (altF toks en f s) := by
  intro f
  induction f with
  | zero => intro s; exact h.zero
  | succ f ih =>
    intro s
    show CloR P E s (altW toks en (altF toks en f) s)
    unfold altW
    have h1 := alts_clo h ih (toks.length + 1 - s.pos) s []
    cases hi : altsGo toks en (altF toks en f) (toks.length + 1 - s.pos) s [] with
    | error p => rw [hi] at h1; exact h1
    | ok r =>
      obtain ⟨k, s1⟩ := r
      rw [hi] at h1
      exact h.trans h1 (one_clo h 2 k s1)
theorem text_clo (h : Clo toks en P E) (hg : ∀ s u, nameP toks en s.pos = .ok u → P s (giveS s u)) (hr : ∀ s r, P s (ruleS s r)) (F : Nat) : ∀ (f : Nat) (s : RdS), match textGo toks en (altF toks en F) f s with | .ok s1 => P s s1 | .error p => E p := by
  intro f
  induction f with
  | zero => intro s; exact h.refl s
  | succ f ih =>
    intro s
    rw [textGo]
    cases hn : nameP toks en s.pos with
    | error p => exact h.name _ _ hn
    | ok u =>
      simp only
      by_cases h1 : isMark toks (s.pos + 1) (mkB 58) = true
      · rw [if_pos h1]
        have h2 := alt_clo h F (stepS (giveS s u))
        cases ha : altF toks en F (stepS (giveS s u)) with
        | error p => rw [ha] at h2; exact h2
        | ok r =>
          obtain ⟨n, s2⟩ := r
          rw [ha] at h2
          simp only
          have h3 := h.trans (h.trans (hg s u hn) (h.step _)) (h.trans h2 (hr s2 ⟨u.name, n⟩))
          by_cases h4 : isMark toks s2.pos (mkB 59) = true
          · rw [if_pos h4]
            by_cases h5 : s2.pos + 1 < toks.length
            · rw [if_pos h5]
              have h6 := ih (ruleS s2 ⟨u.name, n⟩)
              cases hT : textGo toks en (altF toks en F) f (ruleS s2 ⟨u.name, n⟩) with
              | error p => rw [hT] at h6; exact h6
              | ok s3 => rw [hT] at h6; exact h.trans h3 h6
            · rw [if_neg h5]; exact h3
          · rw [if_neg h4]; exact h.fail _
      · rw [if_neg h1]; exact h.fail _
end
/-! ### the tokens of a text -/
def spanOk (toks : List Tok) (n : Nat) : Prop := toks.length ≤ n ∧ ∀ t, t ∈ toks → (t.kind = 1 ∨ t.kind = 2 ∨ t.kind = 3) ∧ 0 ≤ t.pos ∧ t.pos < n ∧ t.text.size ≤ n
theorem firstL_kind (l : List UInt8) : (firstL l).1 = 0 ∨ (firstL l).1 = 1 ∨ (firstL l).1 = 2 ∨ (firstL l).1 = 3 := by
  cases l with
  | nil => left; rfl
  | cons c r =>
    simp only [firstL]
    repeat' split
    all_goals simp
theorem firstL_text (l : List UInt8) : (firstL l).2.1.length ≤ l.length := by
  cases l with
  | nil => simp [firstL]
  | cons c r =>
    simp only [firstL]
    repeat' split
    all_goals simp
    all_goals omega
theorem scanGo_ok : ∀ (f pos : Nat) (l : List UInt8) (acc : List Tok) (n : Nat), pos + l.length = n → acc.length ≤ pos → (∀ t, t ∈ acc → (t.kind = 1 ∨ t.kind = 2 ∨ t.kind = 3) ∧ 0 ≤ t.pos ∧ t.pos < n ∧ t.text.size ≤ n) →
    spanOk (scanGo f pos l acc).1 n ∧ 0 ≤ (scanGo f pos l acc).2.1 ∧ (scanGo f pos l acc).2.1 ≤ n := by
  intro f
  induction f with
  | zero => intro pos l acc n hn ha hk; exact ⟨⟨by simp only [scanGo]; omega, hk⟩, by simp [scanGo], by simp [scanGo]⟩
  | succ f ih =>
    intro pos l acc n hn ha hk
    rw [scanGo]
    split
    · exact ⟨⟨by simp only; omega, hk⟩, by simp, by simp⟩
    · rename_i hne
      split
      · exact ⟨⟨by simp, by simp⟩, by simp, by simp; omega⟩
      · rename_i h0
        have hle := firstL_le l
        have hpos : 0 < l.length := List.length_pos_iff.2 hne
        refine ih _ _ _ n (by rw [List.length_drop]; omega) ?_ ?_
        · split
          · simp; omega
          · omega
        · split
          · rename_i hp
            intro t ht
            rcases List.mem_append.1 ht with ht | ht
            · exact hk t ht
            · have ht := List.mem_singleton.1 ht
              subst ht
              have h1 := firstL_text l
              refine ⟨?_, by simp, by simp; omega, ?_⟩
              · have := firstL_kind l; simp only; omega
              · show (bs (firstL l).2.1).size ≤ n
                rw [bs_size]; omega
          · exact hk
theorem scanL_ok (l : List UInt8) : spanOk (scanL l).1 l.length ∧ 0 ≤ (scanL l).2.1 ∧ (scanL l).2.1 ≤ l.length ∧ (scanL l).1.length ≤ 4000 := by
  unfold scanL
  split
  · exact ⟨⟨by simp, by simp⟩, by simp, by simp, by simp⟩
  · have h := scanGo_ok (l.length + 1) 0 l [] l.length (by omega) (by simp) (by simp)
    exact ⟨h.1, h.2.1, h.2.2, by have := h.1.1; omega⟩
end Go.Proofs.Ytoiejgmfgcdniaa
namespace Go.Proofs.Ytoiejgmfgcdniaa
open Go.RowKit Go.Proofs.YtoiejgmfgcdniaaW.PrintWords

/-! ### Read -/
def rd0 : RdS := ⟨0, [], [], [], []⟩
def parseP (toks : List Tok) (en : Int) : Except Int RdS := textGo toks en (altF toks en (toks.length + 1)) (toks.length + 1) rd0
def noTree : Tree := ⟨[], []⟩
def readT (s : RdS) : Tree × Int × Int :=
  if 24 < s.rules.length ∨ 200 < s.nodes.length then (noTree, 0, 5)
  else if (namesP s.given s.used).2 = 0 then (⟨s.rules, s.nodes⟩, 0, 0) else (noTree, (namesP s.given s.used).1, (namesP s.given s.used).2)
def readQ (n : Int) : List Tok × Int × Int → Tree × Int × Int
  | (toks, at_, e) => if e = 0 then (match parseP toks n with | .error p => (noTree, p, 2) | .ok s => readT s) else (noTree, at_, e)
def readP (l : List UInt8) : Tree × Int × Int := readQ l.length (scanL l)
def UseOk (n : Nat) (u : Use) : Prop := u.name.size ≤ n ∧ 0 ≤ u.pos ∧ u.pos ≤ n
theorem nameP_ok {toks : List Tok} {n : Nat} (h : spanOk toks n) (p : Nat) : match nameP toks (n : Int) p with | .ok u => UseOk n u | .error q => 0 ≤ q ∧ q ≤ n := by
  unfold nameP
  cases hx : toks[p]? with
  | none => exact ⟨by omega, by omega⟩
  | some t =>
    obtain ⟨h1, h2, h3, h4⟩ := h.2 t (List.mem_of_getElem? hx)
    simp only
    by_cases hk : t.kind = 1
    · rw [if_pos hk]; exact ⟨h4, h2, by show t.pos ≤ _; omega⟩
    · rw [if_neg hk]; exact ⟨h2, by omega⟩
theorem clo_use {toks : List Tok} {n : Nat} (h : spanOk toks n) : Clo toks (n : Int) (fun a b => (∀ u, u ∈ a.given ∨ u ∈ a.used → UseOk n u) → ∀ u, u ∈ b.given ∨ u ∈ b.used → UseOk n u) (fun p => 0 ≤ p ∧ p ≤ n) where
  refl := fun _ h => h
  trans := fun h k a => k (h a)
  step := fun _ h => h
  lay := fun _ _ h => h
  use := fun s u hu hs v hv => by
    rcases hv with hv | hv
    · exact hs v (.inl hv)
    · rcases List.mem_append.1 hv with hv | hv
      · exact hs v (.inr hv)
      · have := nameP_ok h s.pos
        rw [hu] at this
        rw [List.mem_singleton.1 hv]
        exact this
  zero := ⟨by omega, by omega⟩
  fail := fun p => by
    unfold failP
    cases hx : toks[p]? with
    | none => exact ⟨Int.natCast_nonneg n, Int.le_refl _⟩
    | some t =>
      obtain ⟨h1, h2, h3, h4⟩ := h.2 t (List.mem_of_getElem? hx)
      exact ⟨h2, by show t.pos ≤ _; omega⟩
  name := fun s p hp => by
    have := nameP_ok h s
    rw [hp] at this
    exact this
theorem parseP_ok {toks : List Tok} {n : Nat} (h : spanOk toks n) : match parseP toks n with | .ok s => ∀ u, u ∈ s.given ∨ u ∈ s.used → UseOk n u | .error p => 0 ≤ p ∧ p ≤ n := by
  have h1 := text_clo (clo_use h) (fun s u hu hs v hv => by
    rcases hv with hv | hv
    · rcases List.mem_append.1 hv with hv | hv
      · exact hs v (.inl hv)
      · have := nameP_ok h s.pos
        rw [hu] at this
        rw [List.mem_singleton.1 hv]
        exact this
    · exact hs v (.inr hv)) (fun _ _ h => h) (toks.length + 1) (toks.length + 1) rd0
  unfold parseP
  cases hp : textGo toks n (altF toks n (toks.length + 1)) (toks.length + 1) rd0 with
  | error p => rw [hp] at h1; exact h1
  | ok s => rw [hp] at h1; exact h1 (by simp [rd0])
def ReadPost (r : Tree × Int × Int) (w : World) (e : Ending) (w' : World) : Prop :=
  ∃ A0 c0 A1 c1, e = .returned (.tuple #[.agg #[.slice A0 r.1.rules.length c0, .slice A1 r.1.nodes.length c1], .int .i64 r.2.1, .int .i64 r.2.2]) ∧
    r.1.rules.length ≤ c0 ∧ Kd.C kRule w' A0 r.1.rules.length r.1.rules ∧ r.1.nodes.length ≤ c1 ∧ Kd.C kNode w' A1 r.1.nodes.length r.1.nodes ∧ Below w.heap.size w w'
theorem ReadPost.fails {at_ e : Int} {w w' : World} (h : Below w.heap.size w w') : ReadPost (noTree, at_, e) w (.returned (.tuple #[.agg #[.slice none 0 0, .slice none 0 0], .int .i64 at_, .int .i64 e])) w' :=
  ⟨Option.none, 0, Option.none, 0, rfl, Nat.le_refl _, Kd.C_nil _ _, Nat.le_refl _, Kd.C_nil _ _, h⟩
set_option maxRecDepth 100000 in
set_option maxHeartbeats 2000000 in
theorem read_any (s : ByteArray) (w : World) : Calls Try.prog 20 #[.string s] w (ReadPost (readP s.data.toList) w) := by
  have hbx := blk_new w (.cells #[.slice none 0 0, .slice none 0 0] 25)
  have hb1 := below_alloc (Below.refl w.heap.size w) (.cells #[.slice none 0 0, .slice none 0 0] 25)
  have hsz1 := Lib.hid (size_alloc w (.cells #[.slice none 0 0, .slice none 0 0] 25))
  have HSC := Lib.hid (scan_any s (w.alloc (.cells #[.slice none 0 0, .slice none 0 0] 25)))
  have HOK := Lib.hid (scanL_ok s.data.toList)
  have hs4 : (scanL s.data.toList).2.2 = 0 → s.size ≤ 4000 := fun h => by
    unfold scanL at h
    by_cases hb : s.data.toList.length > 4000
    · rw [if_pos hb] at h; cases h
    · rw [data_length] at hb; omega
  have HS4000 := Lib.hid hs4
  clear hs4
  have HR : Hid (readP s.data.toList = readQ s.size (scanL s.data.toList)) := Lib.hid (by unfold readP; rw [data_length])
  have hsl : s.data.toList.length = s.size := data_length s
  rw [hsl] at HOK
  generalize readP s.data.toList = res at HR ⊢
  generalize scanL s.data.toList = R at HR HOK HSC HS4000
  obtain ⟨toks, at_, er⟩ := R
  simp only at HOK
  have HBX := Lib.hid hbx
  have HB1 := Lib.hid hb1
  clear hbx hb1 hsl
  go_enter Try.func20, Try.ntmps20
  go_wp2_with fail
  generalize w.alloc (.cells #[.slice none 0 0, .slice none 0 0] 25) = W1 at *
  refine HSC.out.mono ?_
  rintro e w2 ⟨A, c, rfl, hlc, hC, hb2⟩
  have hbx2 := blk_below HBX.out hb2
  have hf0 := blk_frozen hbx2 0
  have hf1 := blk_frozen hbx2 1
  obtain ⟨x0, x1⟩ := cells2 hbx2
  have hltx := blk_lt hbx2
  have HBX2 := Lib.hid hbx2
  have HB2 := Lib.hid (blw HB1.out hb2)
  have HC := Lib.hid hC
  clear hbx2 hb2 hC
  simp only at hlc
  by_cases he : er = 0
  · subst he
    have HQ : Hid (res = match parseP toks s.size with | .error p => (noTree, p, 2) | .ok s => readT s) := Lib.hid (by rw [HR.out]; simp only [readQ, if_true])
    have hbg := blk_new w2 (.cells #[.slice A toks.length c, .int .i64 0, .int .i64 s.size, .slice none 0 0, .slice none 0 0, .slice none 0 0, .slice none 0 0] 114)
    have hb3 := below_alloc (Below.refl w2.heap.size w2) (.cells #[.slice A toks.length c, .int .i64 0, .int .i64 s.size, .slice none 0 0, .slice none 0 0, .slice none 0 0, .slice none 0 0] 114)
    go_upto_region 5 with (fail)
    generalize w2.alloc (.cells #[.slice A toks.length c, .int .i64 0, .int .i64 s.size, .slice none 0 0, .slice none 0 0, .slice none 0 0, .slice none 0 0] 114) = w3 at *
    obtain ⟨hso, ha0, ha1, htl⟩ := HOK.out
    have hs : s.size ≤ 4000 := HS4000.out trivial
    have hPO := parseP_ok hso
    have hpar := parse_any w2 A c toks s.size (toks.length + 1) (by omega) HC.out (fun t ht => (hso.2 t ht).1) (by omega) (fun _ => True) w3 ⟨w2.heap.size, .slice none 0 0, .slice none 0 0, .slice none 0 0, .slice none 0 0⟩ rd0 hb3
      ⟨hbg, Kd.R_nil _ _ _ _ _, Kd.R_nil _ _ _ _ _, Kd.R_nil _ _ _ _ _, Kd.R_nil _ _ _ _ _, Nat.le_refl _⟩ (fun _ _ => trivial) rfl rfl rfl (by unfold bud rd0; simp; omega)
    have HPAR := Lib.hid (show Calls Try.prog 57 #[.pointer (some ⟨w2.heap.size, 0, none⟩)] w3 (ParsePost w2.heap.size (fun _ => True) (.slice A toks.length c) s.size w3 w2.heap.size (parseP toks s.size)) from hpar)
    have HPO := Lib.hid hPO
    have HB3 := Lib.hid hb3
    clear hPO hpar hso hbg hb3 x0 x1 hf0 hf1
    generalize parseP toks s.size = RP0 at HPAR HPO HQ
    go_wp2_with fail
    refine HPAR.out.mono ?_
    intro e w4 hp4
    cases RP0 with
    | error p =>
      obtain ⟨rfl, hF4⟩ := hp4
      obtain ⟨hp0, hp1⟩ := HPO.out
      have HB4 := Lib.hid (HB3.out.trans (hF4.toBelow HB3.out.size))
      have hbx4 := blk_below HBX2.out HB4.out
      have hf0 := blk_frozen hbx4 0
      have hf1 := blk_frozen hbx4 1
      obtain ⟨x0, x1⟩ := cells2 hbx4
      have hltx4 := blk_lt hbx4
      have HBX4 := Lib.hid hbx4
      have HBW := Lib.hid (blw HB2.out HB4.out)
      simp only at HQ
      clear hF4 hbx4
      go_wp2_with fail
      rw [HQ.out]
      have hgz : ((w4.setCell ⟨w.heap.size, 0, none⟩ (.slice none 0 0)).setCell ⟨w.heap.size, 1, none⟩ (.slice none 0 0)).heap[w.heap.size]? = some (.cells #[.slice none 0 0, .slice none 0 0] 25 (0, 0)) := (blk_set ((blk_set HBX4.out 0 _).trans rfl) 1 _).trans rfl
      obtain ⟨t0, t1⟩ := cells2 hgz
      exact bodyPost_ret (v := .tuple #[.agg #[.slice none 0 0, .slice none 0 0], .int .i64 p, .int .i64 2]) (by simp [results, Try.results20, go_sem, t0, t1]) rfl (ReadPost.fails ((HBW.out.setCell (Nat.le_refl _) _).setCell (Nat.le_refl _) _))
    | ok s1 =>
      obtain ⟨rfl, ⟨g, rv, nv, gv, uv⟩, hg, hS4, hF4⟩ := hp4
      simp only at hg
      subst hg
      have HB4 := Lib.hid (HB3.out.trans (hF4.toBelow HB3.out.size))
      have hbx4 := blk_below HBX2.out HB4.out
      have hf0 := blk_frozen hbx4 0
      have hf1 := blk_frozen hbx4 1
      obtain ⟨x0, x1⟩ := cells2 hbx4
      have hltx4 := blk_lt hbx4
      have HBX4 := Lib.hid hbx4
      have HBW := Lib.hid (blw HB2.out HB4.out)
      simp only at HQ
      obtain ⟨Ar, cr, hrv, hlr, hCr⟩ := Kd.R_reads hS4.rules
      obtain ⟨An, cn, hnv, hln, hCn⟩ := Kd.R_reads hS4.nodes
      obtain ⟨Ag, cg, hgv, hlg, hCg⟩ := Kd.R_reads hS4.given
      obtain ⟨Au, cu, huv, hlu, hCu⟩ := Kd.R_reads hS4.used
      simp only at hrv hnv hgv huv
      subst hrv hnv hgv huv
      have hm1 := Kd.C_max hCr
      have hm2 := Kd.C_max hCn
      obtain ⟨_, _, _, d3, d4, d5, d6⟩ := hS4.cs
      have hgl := blk_lt hS4.cells
      simp only at d3 d4 d5 d6 hgl
      have HS4 := Lib.hid hS4
      have HCr := Lib.hid hCr
      have HCn := Lib.hid hCn
      have HNM := Lib.hid (names_any w2.heap.size s1.given s1.used Ag Au cg cu w4 d5 d6 hgl hCg hCu (fun u hu => by have := (HPO.out u (.inl hu)).1; have : maxLen = 9223372036854775807 := rfl; have := HOK.out.2.2.1; have h9 := hs; omega) (fun u hu => by have := (HPO.out u (.inr hu)).1; have : maxLen = 9223372036854775807 := rfl; have h9 := hs; omega))
      clear hF4 hbx4 hS4 hCr hCn hCg hCu d5 d6
      by_cases h24 : 24 < s1.rules.length
      · have HQ2 : Hid (res = (noTree, 0, 5)) := Lib.hid (by rw [HQ.out]; unfold readT; rw [if_pos (.inl h24)])
        go_wp2_with fail
        rw [HQ2.out]
        have hgz : ((w4.setCell ⟨w.heap.size, 0, none⟩ (.slice none 0 0)).setCell ⟨w.heap.size, 1, none⟩ (.slice none 0 0)).heap[w.heap.size]? = some (.cells #[.slice none 0 0, .slice none 0 0] 25 (0, 0)) := (blk_set ((blk_set HBX4.out 0 _).trans rfl) 1 _).trans rfl
        obtain ⟨t0, t1⟩ := cells2 hgz
        exact bodyPost_ret (v := .tuple #[.agg #[.slice none 0 0, .slice none 0 0], .int .i64 0, .int .i64 5]) (by simp [results, Try.results20, go_sem, t0, t1]) rfl (ReadPost.fails ((HBW.out.setCell (Nat.le_refl _) _).setCell (Nat.le_refl _) _))
      · by_cases h200 : 200 < s1.nodes.length
        · have HQ2 : Hid (res = (noTree, 0, 5)) := Lib.hid (by rw [HQ.out]; unfold readT; rw [if_pos (.inr h200)])
          go_wp2_with fail
          rw [HQ2.out]
          have hgz : ((w4.setCell ⟨w.heap.size, 0, none⟩ (.slice none 0 0)).setCell ⟨w.heap.size, 1, none⟩ (.slice none 0 0)).heap[w.heap.size]? = some (.cells #[.slice none 0 0, .slice none 0 0] 25 (0, 0)) := (blk_set ((blk_set HBX4.out 0 _).trans rfl) 1 _).trans rfl
          obtain ⟨t0, t1⟩ := cells2 hgz
          exact bodyPost_ret (v := .tuple #[.agg #[.slice none 0 0, .slice none 0 0], .int .i64 0, .int .i64 5]) (by simp [results, Try.results20, go_sem, t0, t1]) rfl (ReadPost.fails ((HBW.out.setCell (Nat.le_refl _) _).setCell (Nat.le_refl _) _))
        · have HQ3 : Hid (res = if (namesP s1.given s1.used).2 = 0 then (⟨s1.rules, s1.nodes⟩, 0, 0) else (noTree, (namesP s1.given s1.used).1, (namesP s1.given s1.used).2)) := Lib.hid (by rw [HQ.out]; unfold readT; rw [if_neg (by omega)])
          generalize namesP s1.given s1.used = nm at HNM HQ3
          obtain ⟨na, ne⟩ := nm
          simp only at HNM HQ3
          clear hm1 hm2 HQ
          go_wp2_with fail
          refine HNM.out.mono ?_
          rintro e w5 ⟨rfl, hb5⟩
          have hbx5 := blk_below HBX4.out hb5
          have hf0' := blk_frozen hbx5 0
          have hf1' := blk_frozen hbx5 1
          obtain ⟨x0', x1'⟩ := cells2 hbx5
          have hltx5 := blk_lt hbx5
          have HBX5 := Lib.hid hbx5
          have HBW5 := Lib.hid (blw HBW.out hb5)
          have d3' := pw_cell_below hb5 d3
          have d4' := pw_cell_below hb5 d4
          have hgl' := Nat.lt_of_lt_of_le hgl hb5.size
          have HB5 := Lib.hid hb5
          clear hb5 hbx5 x0 x1 hf0 hf1 hltx4 d3 d4 hgl
          by_cases hne : ne = 0
          · subst hne
            have HQ2 : Hid (res = (⟨s1.rules, s1.nodes⟩, 0, 0)) := Lib.hid (by rw [HQ3.out, if_pos rfl])
            go_wp2_with fail
            rw [HQ2.out]
            have hgz : ((w5.setCell ⟨w.heap.size, 0, none⟩ (.slice Ar s1.rules.length cr)).setCell ⟨w.heap.size, 1, none⟩ (.slice An s1.nodes.length cn)).heap[w.heap.size]? = some (.cells #[.slice Ar s1.rules.length cr, .slice An s1.nodes.length cn] 25 (0, 0)) := (blk_set ((blk_set HBX5.out 0 _).trans rfl) 1 _).trans rfl
            obtain ⟨t0, t1⟩ := cells2 hgz
            refine bodyPost_ret (v := .tuple #[.agg #[.slice Ar s1.rules.length cr, .slice An s1.nodes.length cn], .int .i64 0, .int .i64 0]) (by simp [results, Try.results20, go_sem, t0, t1]) rfl ⟨Ar, cr, An, cn, rfl, hlr, ?_, hln, ?_, (HBW5.out.setCell (Nat.le_refl _) _).setCell (Nat.le_refl _) _⟩
            · have h1 := Kd.R_set (Kd.R_below HS4.out.rules HB5.out) HBX5.out (by decide) 0 (.slice Ar s1.rules.length cr)
              have h2 := Kd.R_set h1 ((blk_set HBX5.out 0 _).trans rfl) (by decide) 1 (.slice An s1.nodes.length cn)
              exact (Kd.R_reads' h2).2.2
            · have h1 := Kd.R_set (Kd.R_below HS4.out.nodes HB5.out) HBX5.out (by decide) 0 (.slice Ar s1.rules.length cr)
              have h2 := Kd.R_set h1 ((blk_set HBX5.out 0 _).trans rfl) (by decide) 1 (.slice An s1.nodes.length cn)
              exact (Kd.R_reads' h2).2.2
          · have b0 : (ne != 0) = true := bne_iff_ne.2 hne
            have HQ2 : Hid (res = (noTree, na, ne)) := Lib.hid (by rw [HQ3.out, if_neg hne])
            clear hne
            go_wp2_with fail
            rw [HQ2.out]
            have hgz : ((w5.setCell ⟨w.heap.size, 0, none⟩ (.slice none 0 0)).setCell ⟨w.heap.size, 1, none⟩ (.slice none 0 0)).heap[w.heap.size]? = some (.cells #[.slice none 0 0, .slice none 0 0] 25 (0, 0)) := (blk_set ((blk_set HBX5.out 0 _).trans rfl) 1 _).trans rfl
            obtain ⟨t0, t1⟩ := cells2 hgz
            exact bodyPost_ret (v := .tuple #[.agg #[.slice none 0 0, .slice none 0 0], .int .i64 na, .int .i64 ne]) (by simp [results, Try.results20, go_sem, t0, t1]) rfl (ReadPost.fails ((HBW5.out.setCell (Nat.le_refl _) _).setCell (Nat.le_refl _) _))
  · have b0 : (er != 0) = true := bne_iff_ne.2 he
    have HQ : Hid (res = (noTree, at_, er)) := Lib.hid (by rw [HR.out]; simp only [readQ, if_neg he])
    clear he
    go_wp2_with fail
    rw [HQ.out]
    have hgz : ((w2.setCell ⟨w.heap.size, 0, none⟩ (.slice none 0 0)).setCell ⟨w.heap.size, 1, none⟩ (.slice none 0 0)).heap[w.heap.size]? = some (.cells #[.slice none 0 0, .slice none 0 0] 25 (0, 0)) := (blk_set ((blk_set HBX2.out 0 _).trans rfl) 1 _).trans rfl
    obtain ⟨t0, t1⟩ := cells2 hgz
    exact bodyPost_ret (v := .tuple #[.agg #[.slice none 0 0, .slice none 0 0], .int .i64 at_, .int .i64 er]) (by simp [results, Try.results20, go_sem, t0, t1]) rfl (ReadPost.fails ((HB2.out.setCell (Nat.le_refl _) _).setCell (Nat.le_refl _) _))
end Go.Proofs.Ytoiejgmfgcdniaa
