import Derived.Test.YtoiejgmfgcdniaaMaps
set_option linter.unusedVariables false
set_option linter.unusedSimpArgs false
namespace Go.Proofs.Ytoiejgmfgcdniaa
open Go.RowKit Go.Proofs.YtoiejgmfgcdniaaW.PrintWords
open Go.Maps (Keyed)

/-! ### small words that several walks use -/
theorem R_ne {α β : Type} {d : Kd α} {d' : Kd β} {e e' base base' : Nat} {ok ok' : Nat → Prop} {w : World} {u v : Value} {xs : List α} {ys : List β} (h : d.R e w base ok u xs) (h' : d'.R e' w base' ok' v ys) (ht : ∀ q, q ∈ e :: d.E → q ≠ e') :
    d.R e w base (fun k => ok k ∧ some k ≠ v.ownBlock) u xs := by
  obtain ⟨inner, ho⟩ := Kd.R_own h'
  refine Kd.R_mono (Kd.R_bound h) (fun k hk => ⟨hk.1, fun he => ?_⟩)
  obtain ⟨_, _, _, q, hq, cells, hc⟩ := hk
  obtain ⟨cells', hc'⟩ := own_typed ho k he.symm
  rw [hc] at hc'
  injection hc' with hc'
  injection hc' with _ hc'
  exact ht q hq hc'
theorem wpList_put {K T : TypeId} {κ : Type} [DecidableEq κ] {kl : κ → Lit} {b n : Nat} {f : κ → Option Int} {sz : Nat} (w : World) {ops : Array Oper} {rest : List Oper} {o : Oper} {a : Act} {Q : Exit → Act → World → Prop}
    (hg : o.guard = none) (m x v : Operand) (hop : o.op = Op.mapUpdate T m x v) (law : Keyed Try.prog K) (hT : Try.prog.underlying T = some (.map K 3)) (inj : ∀ {x y}, kl x = kl y → x = y)
    (hm : a.eval m = .map (some b)) (h : MapRep K kl w b n f sz) (hn : n < maxLen) {key : κ} {kv : Value} (hx : a.eval x = kv) (hk : keyOf Try.prog K kv = some (kl key)) {c : Int} (hv : a.eval v = .int .i64 c) (hc : (Lit.int .i64 c).wf = true)
    (hK : ∀ w', MapRep K kl w' b (n + 1) (upd f key c) (if (f key).isSome then sz else sz + 1) → w.grownBy w' (some b) → w'.heap.size = w.heap.size → wpList Try.prog ops Q rest (a.put o.dst undef) w') :
    wpList Try.prog ops Q (o :: rest) a w := by
  refine wpList_plain hg fun K' hK' => ?_
  obtain ⟨w', hrun, r1, r2, r3⟩ := h.put law hT hn inj hk hc
  unfold Oper.wp
  simp [execOp, hop, hm, hx, hv, hrun, Result.andThen]
  exact hK' _ _ (hK w' r1 r2 r3)
theorem lit_row {α : Type} (d : Kd α) (e : Nat) (W : World) (base : Nat) (hb : base ≤ W.heap.size) (xs : List α) (inner : List Value) (hi : Reps (d.M W base (fun _ => True)) d.sz xs inner) (hl : xs.length ≤ 1000) :
    d.R e (W.alloc (.cells inner.toArray e)) base (fun _ => True) (.slice (some ⟨W.heap.size, 0, none⟩) xs.length xs.length) xs := by
  refine ⟨fun _ _ => trivial, inner, ?_, ?_⟩
  · have h2 := World.ownsRow_lit (base := base) (e := e) (size := d.sz) W inner.toArray xs.length hb (by unfold maxLen; omega) (by simpa using hi.1)
    simpa using h2
  · refine hi.imp_ (fun p c hp => d.M_mono (fun k hk => ⟨trivial, fun he => ?_⟩) (Kd.M_below (Kd.M_bound d hp) (below_alloc (Below.refl _ _) _)))
    have h3 : k = W.heap.size := by simpa [Value.ownBlock] using he
    have := hk.2.2.1
    omega
theorem kNode_M {w : World} {base : Nat} {ok : Nat → Prop} (x : Node) {v : Value} (h : (Kd.int .i64).R 3 w base ok v x.kids) : kNode.M w base ok x [.int .i64 x.kind, .string x.name, v] := ⟨[.int .i64 x.kind], [.string x.name, v], rfl, rfl, ⟨[.string x.name], [v], rfl, rfl, v, rfl, h⟩⟩
def sA : ByteArray := ⟨#[97]⟩
def sB : ByteArray := ⟨#[98]⟩
def sS : ByteArray := ⟨#[115]⟩
theorem lit_reads {α : Type} {d : Kd α} {e base g n c : Nat} {w : World} {xs : List α} (h : d.R e w base (fun _ => True) (.slice (some ⟨g, 0, none⟩) n c) xs) (hn : n = xs.length) : d.C w (some ⟨g, 0, none⟩) xs.length xs := by
  obtain ⟨A, c', h1, _, h3⟩ := Kd.R_reads h
  injection h1 with h1
  rw [h1]
  exact h3
theorem form_of {α : Type} {d : Kd α} {e base b : Nat} {w : World} {ok : Nat → Prop} {v : Value} {xs : List α} (h : d.R e w base ok v xs) (hb : v.ownBlock = some b) : ∃ cap, v = .slice (some ⟨b, 0, none⟩) xs.length cap := by
  obtain ⟨inner, ho⟩ := Kd.R_own h
  obtain ⟨_, ⟨rfl, _⟩ | ⟨g, cap, cur, rfl, _⟩⟩ := ho
  · simp [Value.ownBlock] at hb
  · simp only [Value.ownBlock, Option.some.injEq] at hb
    subst hb
    exact ⟨cap, rfl⟩
end Go.Proofs.Ytoiejgmfgcdniaa
