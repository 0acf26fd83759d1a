/- A small library for walks over iterators: the loop's record, a round, the statement; heaps told by their blocks. Conditions: none. -/
import Derived.RangeFuncNested
import Derived.RangeFuncBound
import Derived.RangeFuncCalls
import Derived.RangeFuncLeaves
import Derived.Shelf.Abstract
import Derived.Shelf.RegionOpen
import Derived.WalkKit
import Derived.OwnWalkIn
import Derived.TacticsInMore
import Derived.LoopNIn
import Derived.LoopIn
import Derived.LoopN
import Derived.Outline
import Derived.WalkMore
import Derived.StillTailTactics
import Derived.OrdersIn
import Derived.Sort.QuietTacIn
namespace Go.Proofs.Ytcllofffbmbmlaa
open Go.RowKit Go.Shelf

@[go_sem] theorem wide_depth : Fence.wide.depth = none := rfl
@[go_sem] theorem wide_depth_in (l : Nat) : (Fence.wide.inRound l).depth = none := rfl
@[go_sem] theorem wide_fn (f : FuncId) : Fence.wide.fn f := trivial
@[go_sem] theorem wide_fn_in (l : Nat) (f : FuncId) : (Fence.wide.inRound l).fn f := trivial

section
variable {P : Program} {F : Fence} {n : Nat} {b : Frame} {a : Act} {k : List Item} {cs : List Frame} {w : World} {Q : Exit → Act → World → Prop}
theorem stepR_scope {c : Code} : step P (lone (b.atR a (.code (.scope c) :: k)) cs w) = .next (lone (b.atR a (.code c :: .inScope c :: k)) cs w) :=
  step_lone_go (by simp [stepG, stepG.exec, Frame.atR])
theorem stepR_inScope {c : Code} : step P (lone (b.atR a (.inScope c :: k)) cs w) = .next (lone (b.atR a k) cs w) :=
  step_lone_go (by simp [stepG, stepG.exec, Frame.atR])
/-- A scope through which the run goes without a goto. -/
theorem wpIn_scope_straight {c : Code} (h : c.wpIn F n P (Exit.noGoto Q) a w) : (Code.scope c).wpIn F n P Q a w := by
  intro b k cs hro hb hr
  have h0 : (lone (b.atR a (.code (.scope c) :: k)) cs w).fenced P F := fenced_calm hb hr rfl
  obtain ⟨e, a₁, w₁, hq, harr⟩ := h b (.inScope c :: k) cs hro hb hr
  cases e with
  | normal => exact ⟨.normal, a₁, w₁, hq, .head h0 stepR_scope (StepsIn.trans harr (.one (fenced_calm hb hr rfl) stepR_inScope))⟩
  | exit id =>
    have hx : exitTo id (.inScope c :: k) = exitTo id k := by simp [exitTo]
    exact ⟨.exit id, a₁, w₁, hq, fun k' hk => .head h0 stepR_scope (harr.1 k' (by rw [hx]; exact hk)),
      fun hr' hk => let ⟨k₁, h1, h2⟩ := harr.2 hr' (by rw [hx]; exact hk); ⟨k₁, h1, .head h0 stepR_scope h2⟩⟩
  | goto l => exact hq.elim
  | ret => exact ⟨_, a₁, w₁, hq, .of_steps (.one h0 stepR_scope) harr⟩
  | panic ch => exact ⟨_, a₁, w₁, hq, .of_steps (.one h0 stepR_scope) harr⟩
  | outgrown => exact ⟨_, a₁, w₁, hq, .of_steps (b := b) (k := k) (cs := cs) (e := .outgrown) (.one h0 stepR_scope) harr⟩
end

/-- An arm that ends in this lets the walk stand at an operation. -/
def Stop (p : Prop) : Prop := p
theorem stop_intro {p : Prop} (h : Stop p) : p := h

/-- A loop's record. -/
def lrec (fn : FuncId) (tmps : Array Value) (ps : Array Tmp) (assign body : Code) (D : Nat) (st : LoopState) (pe : Option Code) : Obj :=
  .loop { state := st, pending := pe, fn, tmps, params := ps, assign, body, defers := D }

theorem shape_setCell (w : World) (a : Addr) (v : Value) (k : Nat) : (w.setCell a v).shape? k = w.shape? k := by
  simp only [World.setCell, World.shape?, Array.getElem?_modify]
  by_cases hb : a.block = k
  · subst hb
    simp only [if_true]
    cases hh : w.heap[a.block]? with
    | none => simp
    | some x =>
      cases x <;> simp
      split <;> simp
  · simp [hb]
theorem shape_none {w : World} {r : Nat} {o : Obj} (h : w.heap[r]? = some o) (ho : o.isCells = false) : w.shape? r = none := by
  unfold World.shape?; rw [h]; cases o <;> simp_all [Obj.isCells]
theorem shape_putObj (w : World) {r : Nat} (o : Obj) (hc : w.shape? r = none) (ho : o.isCells = false) (k : Nat) : (w.putObj r o).shape? k = w.shape? k := by
  by_cases e : k = r
  · subst e
    rw [hc]
    rcases Nat.lt_or_ge k w.heap.size with h | h
    · exact shape_none (World.putObj_heap_same h) ho
    · have : (w.putObj k o).heap[k]? = none := Array.getElem?_eq_none (by simpa using h)
      unfold World.shape?; rw [this]
  · unfold World.shape?; rw [World.putObj_heap_other e]

/-- From W to W': blocks may be new; of those that were, at most the ones of S are another. -/
structure Same (S : Nat → Prop) (W W' : World) : Prop where
  os : W'.os = W.os
  tape : W'.tape = W.tape
  output : W'.output = W.output
  size : W.heap.size ≤ W'.heap.size
  old : ∀ k, k < W.heap.size → ¬ S k → W'.heap[k]? = W.heap[k]?
  shp : ∀ k, k < W.heap.size → W'.shape? k = W.shape? k
namespace Same
variable {S T : Nat → Prop} {A B C : World}
theorem refl (S : Nat → Prop) (W : World) : Same S W W := ⟨rfl, rfl, rfl, Nat.le_refl _, fun _ _ _ => rfl, fun _ _ => rfl⟩
theorem mono (h : Same S A B) (hs : ∀ k, k < A.heap.size → S k → T k) : Same T A B := ⟨h.os, h.tape, h.output, h.size, fun k hk hn => h.old k hk (fun hh => hn (hs k hk hh)), h.shp⟩
/-- What is new in the second part may be changed, too. -/
theorem trans' (h : Same S A B) (g : Same T B C) (hT : ∀ k, T k → k < A.heap.size → S k) : Same S A C :=
  ⟨g.os.trans h.os, g.tape.trans h.tape, g.output.trans h.output, Nat.le_trans h.size g.size, fun k hk hn => (g.old k (Nat.lt_of_lt_of_le hk h.size) (fun hh => hn (hT k hh hk))).trans (h.old k hk hn),
    fun k hk => (g.shp k (Nat.lt_of_lt_of_le hk h.size)).trans (h.shp k hk)⟩
theorem trans (h : Same S A B) (g : Same S B C) : Same S A C := h.trans' g (fun _ hk _ => hk)
theorem block (h : Same S A B) {k : Nat} {o : Obj} (ho : A.heap[k]? = some o) (hk : ¬ S k) : B.heap[k]? = some o :=
  (h.old k (Array.getElem?_eq_some_iff.1 ho).1 hk).trans ho
theorem cell (h : Same S A B) {a : Addr} {v : Value} (hc : A.cell? a = some v) (hk : ¬ S a.block) : B.cell? a = some v := by
  have hlt := World.block_lt_of_cell? _ _ hc
  unfold World.cell? at hc ⊢
  rw [h.old _ hlt hk]; exact hc
theorem frozen (h : Same S A B) {a : Addr} (hlt : a.block < A.heap.size) (hk : ¬ S a.block) : B.frozen? a = A.frozen? a := by
  unfold World.frozen?
  rw [h.old _ hlt hk]
theorem unfrozen (h : Same S A B) {a : Addr} {v : Value} (hc : A.cell? a = some v) (hf : A.frozen? a = false) (hk : ¬ S a.block) : B.frozen? a = false :=
  (h.frozen (World.block_lt_of_cell? _ _ hc) hk).trans hf
theorem alloc (h : Same S A B) (o : Obj) : Same S A (B.alloc o) :=
  ⟨h.os, h.tape, h.output, by have := h.size; simp; omega, fun k hk hn => by
    have hlt := Nat.lt_of_lt_of_le hk h.size
    rw [← h.old k hk hn]; exact Below.heap_alloc B o k hlt, fun k hk => by
    have hlt := Nat.lt_of_lt_of_le hk h.size
    rw [← h.shp k hk]; unfold World.shape?; rw [Below.heap_alloc B o k hlt]⟩
theorem drewN (h : Same S A B) (n : Nat) : Same S A (B.drewN n) := ⟨h.os, h.tape, h.output, h.size, h.old, h.shp⟩
theorem drew (h : Same S A B) : Same S A B.drew := ⟨h.os, h.tape, h.output, h.size, h.old, h.shp⟩
theorem setCell (h : Same S A B) {a : Addr} (v : Value) (ha : A.heap.size ≤ a.block ∨ S a.block) : Same S A (B.setCell a v) :=
  ⟨h.os, h.tape, h.output, by have := h.size; simp; omega, fun k hk hn => by
    rw [← h.old k hk hn]
    refine Below.heap_setCell B a v k ?_
    intro e; subst e
    rcases ha with ha | ha
    · omega
    · exact hn ha, fun k hk => (shape_setCell B a v k).trans (h.shp k hk)⟩
theorem putObj (h : Same S A B) {r : Nat} (o : Obj) (ha : A.heap.size ≤ r ∨ S r) (hc : B.shape? r = none) (ho : o.isCells = false) : Same S A (B.putObj r o) :=
  ⟨h.os, h.tape, h.output, by have := h.size; simp; omega, fun k hk hn => by
    rw [← h.old k hk hn]
    refine World.putObj_heap_other ?_
    intro e; subst e
    rcases ha with ha | ha
    · omega
    · exact hn ha, fun k hk => (shape_putObj B o hc ho k).trans (h.shp k hk)⟩
theorem below (h : Same (fun _ => False) A B) : Below A.heap.size A B := ⟨h.os, h.tape, h.output, h.size, fun k hk => h.old k hk (by simp)⟩
end Same

/-- What a round must come to, by the way in which its body is left; the record's own turn is told by 'Same'. -/
def roundQ (l : Nat) (rec : LoopState → Option Code → Obj) (R : Ending → World → Prop) : Exit → Act → World → Prop
  | .normal, _, W => W.heap[l]? = some (rec .busy none) ∧ ∀ W', Same (· = l) W W' → W'.heap.size = W.heap.size → W'.heap[l]? = some (rec .ready none) → R (.returned (.bool true)) W'
  | .ret, _, W => W.heap[l]? = some (rec .busy none) ∧ ∀ W', Same (· = l) W W' → W'.heap.size = W.heap.size → W'.heap[l]? = some (rec .done (some .ret)) → R (.returned (.bool false)) W'
  | .exit id, _, W => W.heap[l]? = some (rec .busy none) ∧ ∀ W', Same (· = l) W W' → W'.heap.size = W.heap.size → W'.heap[l]? = some (rec .done (some (.exit id))) → R (.returned (.bool false)) W'
  | .goto t, _, W => W.heap[l]? = some (rec .busy none) ∧ ∀ W', Same (· = l) W W' → W'.heap.size = W.heap.size → W'.heap[l]? = some (rec .done (some (.goto t))) → R (.returned (.bool false)) W'
  | .panic _, _, _ => False
  | .outgrown, _, _ => False

/-- The rule of a round, of a record that is told by its states alone. -/
def RoundRule (P : Program) (n l : Nat) (tmps : Array Value) (ps : Array Tmp) (assign body : Code) (rec : LoopState → Option Code → Obj) : Prop :=
  ∀ (W : World) (args : Array Value) (R : Ending → World → Prop), W.heap[l]? = some (rec .ready none) → args.size = ps.size →
    assign.wpIn (Fence.wide.inRound l) n P (Exit.then (fun a1 W1 => W1.heap[l]? = some (rec .ready none) ∧
        ∀ W2, Same (· = l) W1 W2 → W2.heap.size = W1.heap.size → W2.heap[l]? = some (rec .busy none) →
          body.wpIn (Fence.wide.inRound l) n P (roundQ l rec R) a1 W2) (fun _ _ _ => False))
      { tmps := (ps.zip args).foldl (fun t (p, v) => t.setIfInBounds p v) tmps, defers := [] } W →
    YieldAt Fence.wide n P l args W R

theorem same_putObj {W : World} {l : Nat} (o : Obj) {o0 : Obj} (h0 : W.heap[l]? = some o0) (h1 : o0.isCells = false := by rfl) (h2 : o.isCells = false := by rfl) : Same (· = l) W (W.putObj l o) := (Same.refl _ W).putObj o (.inr rfl) (shape_none h0 h1) h2

theorem round_rule {P : Program} {n l : Nat} {fn : FuncId} {tmps : Array Value} {ps : Array Tmp} {assign body : Code} {D : Nat} :
    RoundRule P n l tmps ps assign body (lrec fn tmps ps assign body D) := by
  intro W args R hl hps h
  have hy := run_yield (P := P) (args := args) (r := { state := .ready, pending := none, fn, tmps, params := ps, assign, body, defers := D }) hl hps
  refine ⟨fn, _, assign, body, hy, roundIn_of_wpIn trivial (wpIn_mono h ?_)⟩
  intro e a1 W1 hq
  have hin : ∀ (W : World) (o o' : Obj), W.heap[l]? = some o → (W.putObj l o').heap[l]? = some o' := fun W o o' ho => World.putObj_heap_same (Array.getElem?_eq_some_iff.1 ho).1
  cases e with
  | normal =>
    obtain ⟨hl1, hb⟩ := hq
    refine ⟨_, run_beginRound hl1 rfl, wpIn_mono (hb _ (same_putObj _ hl1) (by simp) (hin _ _ _ hl1)) ?_⟩
    intro e a2 W2 hq2
    cases e with
    | normal => exact ⟨_, _, run_endRound none hq2.1, hq2.2 _ (same_putObj _ hq2.1) (by simp) (hin _ _ _ hq2.1)⟩
    | ret => exact ⟨_, _, run_endRound (some .ret) hq2.1, hq2.2 _ (same_putObj _ hq2.1) (by simp) (hin _ _ _ hq2.1)⟩
    | exit id => exact ⟨_, _, run_endRound (some (.exit id)) hq2.1, hq2.2 _ (same_putObj _ hq2.1) (by simp) (hin _ _ _ hq2.1)⟩
    | goto t => exact ⟨_, _, run_endRound (some (.goto t)) hq2.1, hq2.2 _ (same_putObj _ hq2.1) (by simp) (hin _ _ _ hq2.1)⟩
    | panic ch => exact hq2.elim
    | outgrown => exact hq2.elim
  | exit id => exact hq.elim
  | goto t => exact hq.elim
  | ret => exact hq.elim
  | panic ch => exact hq.elim
  | outgrown => exact hq.elim

/-- What the iterator must come to: it has run out, or a round has left by a jump. -/
def rangeQ (F : Fence) (P : Program) (n : Nat) (l : Nat) (rec : LoopState → Option Code → Obj) (Q : Exit → Act → World → Prop) (a' : Act) (e : Ending) (W : World) : Prop :=
  (∃ v, e = .returned v) ∧
    ((W.heap[l]? = some (rec .ready none) ∧ ∀ W', Same (· = l) W W' → W'.heap.size = W.heap.size → Q .normal a' W') ∨
      ∃ c, W.heap[l]? = some (rec .done (some c)) ∧ ∀ W', Same (· = l) W W' → W'.heap.size = W.heap.size → c.wpIn F n P Q a' W')

theorem same_alloc {W : World} (o : Obj) : Same (fun _ => False) W (W.alloc o) := (Same.refl _ W).alloc o

/-- 'for .. := range g { .. }', not within a round: D and L are the two blocks that it lays. -/
theorem range_wide {P : Program} {n : Nat} {g : Operand} {ps : Array Tmp} {assign body : Code} {Q : Exit → Act → World → Prop} {a : Act} {w : World} {gf : FuncId} {lb : Array Value}
    (hg : a.eval g = .func (.func gf) #[] lb) (eg : ∀ args w, (callFunc gf args).run P w = .ok (.enter gf args) w)
    (h : ∀ (rec : LoopState → Option Code → Obj) (D L : Nat) (W1 : World), w.heap.size ≤ D → D < L → RoundRule P n L a.tmps ps assign body rec →
        Same (fun _ => False) w W1 → W1.heap[L]? = some (rec .ready none) → W1.heap[D]? = some (.deferred (some [])) → (∀ st pe, (rec st pe).isCells = false) →
        Calls P gf (#[.func (.yield L) #[] #[]] ++ lb) W1 (rangeQ Fence.wide P n L rec Q { a with defers := { target := .collected D, args := #[] } :: a.defers })) :
    (Code.rangeFunc g ps assign body).wpIn Fence.wide n P Q a w := by
  refine wpIn_rangeFunc ?_
  intro fn _
  have H := h (lrec fn a.tmps ps assign body w.heap.size) w.heap.size (w.heap.size + 1) ((w.alloc (.deferred (some []))).alloc (lrec fn a.tmps ps assign body w.heap.size .ready none)) (Nat.le_refl _) (Nat.lt_succ_self _) round_rule
    ((same_alloc _).alloc _) (by have := World.alloc_heap_new (w.alloc (.deferred (some []))) (lrec fn a.tmps ps assign body w.heap.size .ready none); rwa [World.size_alloc] at this)
    ((Below.heap_alloc _ _ _ (by simp)).trans (World.alloc_heap_new w _)) (fun _ _ => rfl)
  obtain ⟨W1, hW1⟩ : ∃ W1, (w.alloc (.deferred (some []))).alloc (lrec fn a.tmps ps assign body w.heap.size .ready none) = W1 := ⟨_, rfl⟩
  rw [hW1] at H
  refine ⟨w.heap.size + 1, [{ target := .collected w.heap.size, args := #[] }], W1, { target := .fn (.func gf) lb, args := #[.func (.yield (w.heap.size + 1)) #[] #[]] }, W1, gf,
    #[.func (.yield (w.heap.size + 1)) #[] #[]] ++ lb, W1, ?_, ?_, fun _ _ => trivial, ?_, fun h => by simp [Fence.wide] at h, ?_⟩
  · rw [← hW1]; exact run_enterLoop_outer _ _ _ _ _
  · simp only [resolve, hg]
    simp [go_sem]
  · simp [invoke, go_sem, eg]
  · refine CallsIn.mono (callsIn_wide.2 H) ?_
    rintro e W ⟨⟨v, rfl⟩, ⟨hl, hq⟩ | ⟨c, hl, hq⟩⟩
    · exact ⟨none, _, run_endLoop hl (by simp), hq _ (same_putObj _ hl) (by simp)⟩
    · exact ⟨some c, _, run_endLoop hl (by simp), hq _ (same_putObj _ hl) (by simp)⟩

/-- '.. within a round of the loop l0' (the block of its record is D0's owner). -/
theorem range_inner {P : Program} {n l0 : Nat} {g : Operand} {ps : Array Tmp} {assign body : Code} {Q : Exit → Act → World → Prop} {a : Act} {w : World} {gf : FuncId} {lb : Array Value} {r0 : Loop}
    (hl0 : w.heap[l0]? = some (.loop r0))
    (hg : a.eval g = .func (.func gf) #[] lb) (eg : ∀ args w, (callFunc gf args).run P w = .ok (.enter gf args) w)
    (h : ∀ (rec : LoopState → Option Code → Obj) (L : Nat) (W1 : World), w.heap.size ≤ L → RoundRule P n L a.tmps ps assign body rec →
        Same (fun _ => False) w W1 → W1.heap[L]? = some (rec .ready none) → (∀ st pe, (rec st pe).isCells = false) →
        Calls P gf (#[.func (.yield L) #[] #[]] ++ lb) W1 (rangeQ (Fence.wide.inRound l0) P n L rec Q a)) :
    (Code.rangeFunc g ps assign body).wpIn (Fence.wide.inRound l0) n P Q a w := by
  refine wpIn_rangeFunc ?_
  intro fn _
  have he : (Instr.enterLoop fn a.tmps ps assign body (some l0)).run P w = .ok (w.heap.size, []) (w.alloc (lrec fn a.tmps ps assign body r0.defers .ready none)) := by
    unfold Instr.enterLoop
    simp only [Sem.run_bind, run_newObj_alloc, Result.andThen, Sem.run_pure, run_getLoop hl0]
    rfl
  have H := h (lrec fn a.tmps ps assign body r0.defers) w.heap.size (w.alloc (lrec fn a.tmps ps assign body r0.defers .ready none)) (Nat.le_refl _) round_rule (same_alloc _) (World.alloc_heap_new w _) (fun _ _ => rfl)
  obtain ⟨W1, hW1⟩ : ∃ W1, w.alloc (lrec fn a.tmps ps assign body r0.defers .ready none) = W1 := ⟨_, rfl⟩
  rw [hW1] at H he
  refine ⟨w.heap.size, [], W1, { target := .fn (.func gf) lb, args := #[.func (.yield w.heap.size) #[] #[]] }, W1, gf,
    #[.func (.yield w.heap.size) #[] #[]] ++ lb, W1, he, ?_, fun _ _ => trivial, ?_, fun h => by simp [Fence.wide, Fence.inRound] at h, ?_⟩
  · simp only [resolve, hg]
    simp [go_sem]
  · simp [invoke, go_sem, eg]
  · refine CallsIn.mono (CallsIn.inRound l0 (callsIn_wide.2 H)) ?_
    rintro e W ⟨⟨v, rfl⟩, ⟨hl, hq⟩ | ⟨c, hl, hq⟩⟩
    · exact ⟨none, _, run_endLoop hl (by simp), hq _ (same_putObj _ hl) (by simp)⟩
    · exact ⟨some c, _, run_endLoop hl (by simp), hq _ (same_putObj _ hl) (by simp)⟩

/-- The end of a function that held such a loop: the block for deferred calls is there, and empty. -/
theorem leaves_mark {P : Program} {n : Nat} {fn : Func} {tmps : Array Value} {R : Ending → World → Prop} {D : Nat} {w : World} {v : Value}
    (hD : w.heap[D]? = some (.deferred (some []))) (hv : ∀ W', Same (· = D) w W' → W'.heap.size = w.heap.size → (results fn tmps).run P W' = .ok v W' ∧ R (.returned v) W') :
    LeavesInM Fence.wide n P fn tmps R [{ target := .collected D, args := #[] }] .returning w := by
  refine ⟨by simp, .inl ⟨_, _, rfl, run_takeDeferred hD, ?_⟩⟩
  obtain ⟨h1, h2⟩ := hv (w.putObj D (.deferred none)) (same_putObj _ hD) (by simp)
  exact ⟨_, h1, h2⟩

/-! A region that draws its order, within a round, too. -/
section
variable {P : Program} {ops : Array Oper} {md : Region.Mode} {w : World}
/-- The fence of all functions, with or without a round. -/
def Wide (F : Fence) : Prop := F = Fence.wide ∨ ∃ l, F = Fence.wide.inRound l
theorem wide_self : Wide Fence.wide := .inl rfl
theorem wide_round (l : Nat) : Wide (Fence.wide.inRound l) := .inr ⟨l, rfl⟩
theorem Wide.fn {F : Fence} (h : Wide F) (f : FuncId) : F.fn f := by rcases h with rfl | ⟨l, rfl⟩ <;> trivial
theorem Wide.depth {F : Fence} (h : Wide F) : F.depth.isSome = true → False := by rcases h with rfl | ⟨l, rfl⟩ <;> (intro h; simp [Fence.wide, Fence.inRound] at h)
theorem Wide.calls {F : Fence} (h : Wide F) {n : Nat} {f : FuncId} {args : Array Value} {w : World} {R : Ending → World → Prop} (hc : Calls P f args w R) : CallsIn F n P f args w R := by
  rcases h with rfl | ⟨l, rfl⟩
  · exact callsIn_wide.2 hc
  · exact CallsIn.inRound l (callsIn_wide.2 hc)
def noDefer (ops : Array Oper) : Bool := ops.all fun o => match o.op with | .defer _ => false | _ => true
theorem noDefer_spec (h : noDefer ops = true) {i : Nat} {o : Oper} (ho : ops[i]? = some o) (F : Fence) (ρ : Operand → Value) : o.semAt F.round ρ = execOp ρ o := by
  refine Oper.semAt_plain F _ _ ?_
  intro c hc
  have h1 := Array.all_eq_true'.1 h o (Array.mem_of_getElem? ho)
  rw [hc] at h1
  cases h1
theorem wpOpIn_of_stOp {F : Fence} (hF : Wide F) {n i : Nat} (hnd : noDefer ops = true) {a : Act} {K : Act → Prop} {K' : Act → World → Prop} {Q' : Exit → Act → World → Prop} (h : ∀ a, K a → K' a w) (hh : stOp P ops w i K a) :
    wpOpIn F n P ops Q' i K' a w := by
  unfold stOp at hh
  unfold wpOpIn
  split
  · rename_i ho; simp only [ho] at hh; exact h _ hh
  · rename_i o ho
    simp only [ho] at hh
    split
    · rename_i hw
      simp only [hw, if_true] at hh
      unfold Oper.still at hh
      unfold Oper.wpIn
      refine ⟨fun _ _ => hF.fn _, ?_⟩
      rw [noDefer_spec hnd ho]
      generalize (execOp a.eval o).run P w = r at *
      cases r with
      | ok x w' =>
        cases x <;> simp only [Oper.stillUpon] at hh <;> simp only [Oper.uponIn]
        case enter f args =>
          obtain ⟨rfl, v, hc, hn⟩ := hh
          exact ⟨fun hd => (hF.depth hd).elim, hF.calls (hc.mono fun e w'' ⟨he, hw⟩ => by subst he; subst hw; exact h _ hn)⟩
        all_goals (obtain ⟨rfl, h2⟩ := hh; exact h _ h2)
      | halt x w' => simp only [Oper.stillUpon] at hh
    · rename_i hw; simp only [hw] at hh; exact ⟨fun _ _ => hF.fn _, h _ hh⟩
theorem wpAnyIn_of_head {F : Fence} (hF : Wide F) {n : Nat} (hnd : noDefer ops = true) {m g : Nat} {L : Array Bool → Act → Prop} {Q' : Exit → Act → World → Prop} (hL : ∀ listed a, L listed a → wpAnyIn F n P md ops Q' g listed a w) :
    ∀ (f : Nat) (listed : Array Bool) (a : Act), wpAnyL P md ops w m L f listed a → wpAnyIn F n P md ops Q' (f + g) listed a w
  | 0, listed, a, h => by rw [Nat.zero_add]; exact hL _ _ h
  | f + 1, listed, a, h => by
    rw [show f + 1 + g = (f + g) + 1 by omega]
    exact ⟨fun h0 => absurd h0 h.1, fun i hi => wpOpIn_of_stOp hF hnd (fun a' h' => wpAnyIn_of_head hF hnd hL f _ a' h') (h.2 i hi).2⟩
theorem wpAnyIn_of_seq {F : Fence} {n : Nat} (hF : Wide F) {Q' : Exit → Act → World → Prop} : ∀ (l : List Oper) (k : Nat) (listed : Array Bool) (a : Act) (w : World), (∀ j, l[j]? = ops[k + j]?) →
    Region.seqB md ops l.length k listed = true → wpListIn F n P ops Q' l a w → wpAnyIn F n P md ops Q' l.length listed a w
  | [], _, _, _, _, _, hB, h => ⟨by simpa [Region.seqB] using hB, h⟩
  | o :: l, k, listed, a, w, hl, hB, h => by
    have h0 : ops[k]? = some o := by simpa using (hl 0).symm
    simp only [List.length_cons, Region.seqB, Bool.and_eq_true, decide_eq_true_eq] at hB
    refine ⟨fun h1 => (by rw [hB.1] at h1; cases h1), fun i hi => ?_⟩
    rw [hB.1] at hi
    have hik : i = k := by simpa using hi
    subst hik
    have hw : wpOpIn F n P ops Q' i (wpListIn F n P ops Q' l) a w := by unfold wpOpIn; simp only [h0]; exact h
    exact wpOpIn_mono (fun a' w' h' => wpAnyIn_of_seq hF l (i + 1) _ a' w' (fun j => by have := hl (j + 1); simpa [Nat.add_assoc, Nat.add_comm 1 j] using this) hB.2 h') hw
/-- Reads in whatever order, then the last ones in theirs. -/
theorem wpIn_region_still_tail {F : Fence} (hF : Wide F) {nf : Nat} {id : Nat} {Q : Exit → Act → World → Prop} {a : Act} {w : World} {l : List Oper} (n : Nat) (hm : P.follows .mixedOrders = true) (hnd : noDefer l.toArray = true) (hB : Region.lexTailB .any l.toArray n = true)
    (h : wpStill P l.toArray w.drew (fun a' => wpListIn F nf P l.toArray Q (l.drop n) a' w.drew) (l.take n) a) : (Code.region id l.toArray true).wpIn F nf P Q a w := by
  simp only [Region.lexTailB, Bool.and_eq_true, decide_eq_true_eq] at hB
  obtain ⟨⟨⟨⟨hsel, hn⟩, hs⟩, hc⟩, hlex⟩ := hB
  have hn' : n < l.length := by simpa using hn
  have htl : (l.take n).length = n := by simp; omega
  have hdl : (l.drop n).length = l.toArray.size - n := by simp
  have inv0 : HeadInv .any l.toArray n (Array.replicate l.toArray.size false) :=
    ⟨by simp, fun j oj _ hl => (by rw [getD_replicate_false] at hl; cases hl), fun t _ ht => getD_in (by simpa using ht) (getD_replicate_false _ _)⟩
  have H := wpAnyL_lex (md := .any) (g := l.toArray.size - n) hsel hs hc hn (l.take n) 0 _ a (fun j hj => by
    have hj' : j < n := by rw [htl] at hj; exact hj
    simp [hj']) (by simpa using htl) inv0 (by rw [htl]; exact hlex) h
  refine wpIn_region_any hm ?_
  have := wpAnyIn_of_head hF (n := nf) hnd (Q' := Q) (g := l.toArray.size - n) (fun listed a' hL => by
    have := wpAnyIn_of_seq hF (md := .any) (Q' := Q) (l.drop n) n listed a' { w with drawn := w.drawn + 1 } (fun j => by simp [List.getElem?_drop]) (by rw [hdl]; exact hL.1) hL.2
    rwa [hdl] at this) _ _ _ H
  rw [htl, show n + (l.toArray.size - n) = l.toArray.size by omega] at this
  exact this

variable {C : World → Prop}
theorem wpOpIn_of_qOpIn' {F : Fence} (hF : Wide F) {n i : Nat} (hnd : noDefer ops = true) {a : Act} {K : Act → Prop} {K' : Act → World → Prop} {Q' : Exit → Act → World → Prop} (hC : C w) (h : ∀ a w', C w' → K a → K' a w')
    (hh : qOpIn Fence.wide n P ops C i K a) : wpOpIn F n P ops Q' i K' a w := by
  unfold qOpIn at hh
  unfold wpOpIn
  split
  · rename_i ho; simp only [ho] at hh; exact h _ _ hC hh
  · rename_i o ho
    simp only [ho] at hh
    obtain ⟨ha, hh⟩ := hh
    split
    · rename_i hw
      simp only [hw, if_true] at hh
      obtain ⟨v, h1, h2⟩ := hh
      have h3 := h1 w hC
      unfold Oper.quietAtIn at h3
      unfold Oper.wpIn
      refine ⟨fun _ _ => hF.fn _, ?_⟩
      rw [noDefer_spec hnd ho]
      generalize (execOp a.eval o).run P w = r at *
      cases r with
      | ok x w' =>
        cases x <;> simp only [Oper.quietUponIn] at h3 <;> simp only [Oper.uponIn]
        case value u =>
          obtain ⟨e1, e2⟩ := h3
          rw [e1, e2]
          exact h _ _ hC h2
        case skip =>
          obtain ⟨e1, e2⟩ := h3
          rw [e1, ← e2]
          exact h _ _ hC h2
        case enter f args =>
          obtain ⟨e1, hd, hc⟩ := h3
          rw [e1]
          exact ⟨fun hd => (hF.depth hd).elim, hF.calls ((callsIn_wide.1 hc).mono fun e w'' ⟨he, hw''⟩ => by subst he; exact h _ _ hw'' h2)⟩
      | halt x w' => simp only [Oper.quietUponIn] at h3
    · rename_i hw; simp only [hw] at hh; exact ⟨fun _ _ => hF.fn _, h _ _ hC hh⟩
theorem wpAnyIn_of_quiet' {F : Fence} (hF : Wide F) {n : Nat} (hnd : noDefer ops = true) {Q : Act → Prop} {Q' : Exit → Act → World → Prop} (hQ : ∀ a w, C w → Q a → Q' .normal a w) : ∀ (fuel : Nat) (listed : Array Bool) (a : Act) (w : World), C w →
    wpAnyQIn Fence.wide n P md ops C Q fuel listed a → wpAnyIn F n P md ops Q' fuel listed a w
  | 0, _, _, _, hw, h => ⟨h.1, hQ _ _ hw h.2⟩
  | fuel + 1, _, _, _, hw, h => ⟨fun h0 => hQ _ _ hw (h.1 h0), fun i hi => wpOpIn_of_qOpIn' hF hnd hw (fun a' w' hw' => wpAnyIn_of_quiet' hF hnd hQ fuel _ a' w' hw') (h.2 i hi)⟩
/-- Reads and calls that leave the world alone but for draws, in whatever order. -/
theorem wpIn_region_quiet' {F : Fence} (hF : Wide F) {n : Nat} {id : Nat} {Q : Exit → Act → World → Prop} {a : Act} {w : World} {l : List Oper} (hm : P.follows .mixedOrders = true) (hnd : noDefer l.toArray = true) (hB : Region.lexB .any l.toArray = true)
    (h : wpQuietIn Fence.wide n P l.toArray (fun w' => ∃ n, w' = w.drewN n) (fun a' => ∀ w', (∃ n, w' = w.drewN n) → Q .normal a' w') l a) : (Code.region id l.toArray true).wpIn F n P Q a w := by
  simp only [Region.lexB, Bool.and_eq_true] at hB
  refine wpIn_region_any hm (wpAnyIn_of_quiet' hF hnd (C := fun w' => ∃ n, w' = w.drewN n) (Q := fun a' => ∀ w', (∃ n, w' = w.drewN n) → Q .normal a' w') (fun _ w' hw' h => h w' hw') _ _ _ _ ⟨1, rfl⟩ ?_)
  have := wpAnyQIn_lex (F := Fence.wide) (n := n) (C := fun w' => ∃ n, w' = w.drewN n) (md := .any) hB.1 l 0 (Array.replicate l.toArray.size false) a (by simp) (by simpa using hB.2) h
  simpa using this
end

/-- .. of a function that held several. -/
theorem leaves_cons {P : Program} {n : Nat} {fn : Func} {tmps : Array Value} {R : Ending → World → Prop} {D : Nat} {w : World} {ds : List Deferred}
    (hD : w.heap[D]? = some (.deferred (some []))) (h : ∀ W', Same (· = D) w W' → W'.heap.size = w.heap.size → LeavesInM Fence.wide n P fn tmps R ds .returning W') :
    LeavesInM Fence.wide n P fn tmps R ({ target := .collected D, args := #[] } :: ds) .returning w :=
  ⟨by simp, .inl ⟨_, _, rfl, run_takeDeferred hD, h _ (same_putObj _ hD) (by simp)⟩⟩
theorem leaves_nil {P : Program} {n : Nat} {fn : Func} {tmps : Array Value} {R : Ending → World → Prop} {w : World} {v : Value}
    (h1 : (results fn tmps).run P w = .ok v w) (h2 : R (.returned v) w) : LeavesInM Fence.wide n P fn tmps R [] .returning w := ⟨_, h1, h2⟩

end Go.Proofs.Ytcllofffbmbmlaa
