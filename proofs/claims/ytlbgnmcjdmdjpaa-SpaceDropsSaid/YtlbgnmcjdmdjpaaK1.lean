/- A small library for walks over iterators: the loop's record, a round, the statement; heaps told by their blocks. Conditions: none.
Maps told as lists of pairs: what a lookup, a store and a delete come to. Conditions: a law of the key's type.
append onto a row of one's own, the frame told by 'Same'. Conditions: the lengths' bounds.
Arguments opened: which leaf stands at which cell of a type, and that its cell reads as one. Conditions: closed facts on the types. -/
import Derived.RangeFuncNested
import Derived.RangeFuncBound
import Derived.RangeFuncCalls
import Derived.RangeFuncLeaves
import Derived.Shelf.Abstract
import Derived.Shelf.RegionOpen
import Derived.WalkKit
import Derived.OwnWalkIn
import Derived.TacticsInMore
import Derived.LoopNIn
import Derived.LoopIn
import Derived.LoopN
import Derived.Outline
import Derived.WalkMore
import Derived.StillTailTactics
import Derived.OrdersIn
import Derived.Sort.QuietTacIn
import Derived.MapKept
import Derived.Laws.Entries
import Derived.Laws.AppendOwn
import Derived.Deep.Slices
import Derived.ChangeArms
import Derived.WideShapes
import Derived.KernelRfl
import Derived.Test.YtlbgnmcjdmdjpaaRows
import Derived.Deep.QuietTactic
import Derived.BigQuiet
import Derived.Sort.BigQuietIn
import Derived.Below
import Derived.Lib.Hide
import Derived.Lib.LazyBuf
import Derived.Laws.IdiomStrings
import Derived.Laws.BytesArg
import Derived.Deep.MidRow
import Derived.Stop.BytesEq
import Derived.Sort.CutIn
import Derived.Laws.MakeOwn
set_option linter.unusedSimpArgs false
set_option linter.unusedVariables false
namespace Go.Proofs.Ytlbgnmcjdmdjpaa
open Go.RowKit Go.Shelf

@[go_sem] theorem wide_depth : Fence.wide.depth = none := rfl
@[go_sem] theorem wide_depth_in (l : Nat) : (Fence.wide.inRound l).depth = none := rfl
@[go_sem] theorem wide_fn (f : FuncId) : Fence.wide.fn f := trivial
@[go_sem] theorem wide_fn_in (l : Nat) (f : FuncId) : (Fence.wide.inRound l).fn f := trivial

section
variable {P : Program} {F : Fence} {n : Nat} {b : Frame} {a : Act} {k : List Item} {cs : List Frame} {w : World} {Q : Exit → Act → World → Prop}
theorem stepR_scope {c : Code} : step P (lone (b.atR a (.code (.scope c) :: k)) cs w) = .next (lone (b.atR a (.code c :: .inScope c :: k)) cs w) :=
  step_lone_go (by simp [stepG, stepG.exec, Frame.atR])
theorem stepR_inScope {c : Code} : step P (lone (b.atR a (.inScope c :: k)) cs w) = .next (lone (b.atR a k) cs w) :=
  step_lone_go (by simp [stepG, stepG.exec, Frame.atR])
/-- A scope through which the run goes without a goto. -/
theorem wpIn_scope_straight {c : Code} (h : c.wpIn F n P (Exit.noGoto Q) a w) : (Code.scope c).wpIn F n P Q a w := by
  intro b k cs hro hb hr
  have h0 : (lone (b.atR a (.code (.scope c) :: k)) cs w).fenced P F := fenced_calm hb hr rfl
  obtain ⟨e, a₁, w₁, hq, harr⟩ := h b (.inScope c :: k) cs hro hb hr
  cases e with
  | normal => exact ⟨.normal, a₁, w₁, hq, .head h0 stepR_scope (StepsIn.trans harr (.one (fenced_calm hb hr rfl) stepR_inScope))⟩
  | exit id =>
    have hx : exitTo id (.inScope c :: k) = exitTo id k := by simp [exitTo]
    exact ⟨.exit id, a₁, w₁, hq, fun k' hk => .head h0 stepR_scope (harr.1 k' (by rw [hx]; exact hk)),
      fun hr' hk => let ⟨k₁, h1, h2⟩ := harr.2 hr' (by rw [hx]; exact hk); ⟨k₁, h1, .head h0 stepR_scope h2⟩⟩
  | goto l => exact hq.elim
  | ret => exact ⟨_, a₁, w₁, hq, .of_steps (.one h0 stepR_scope) harr⟩
  | panic ch => exact ⟨_, a₁, w₁, hq, .of_steps (.one h0 stepR_scope) harr⟩
  | outgrown => exact ⟨_, a₁, w₁, hq, .of_steps (b := b) (k := k) (cs := cs) (e := .outgrown) (.one h0 stepR_scope) harr⟩
end

/-- An arm that ends in this lets the walk stand at an operation. -/
def Stop (p : Prop) : Prop := p
theorem stop_intro {p : Prop} (h : Stop p) : p := h

/-- A loop's record. -/
def lrec (fn : FuncId) (tmps : Array Value) (ps : Array Tmp) (assign body : Code) (D : Nat) (st : LoopState) (pe : Option Code) : Obj :=
  .loop { state := st, pending := pe, fn, tmps, params := ps, assign, body, defers := D }

theorem shape_setCell (w : World) (a : Addr) (v : Value) (k : Nat) : (w.setCell a v).shape? k = w.shape? k := by
  simp only [World.setCell, World.shape?, Array.getElem?_modify]
  by_cases hb : a.block = k
  · subst hb
    simp only [if_true]
    cases hh : w.heap[a.block]? with
    | none => simp
    | some x =>
      cases x <;> simp
      split <;> simp
  · simp [hb]
theorem shape_none {w : World} {r : Nat} {o : Obj} (h : w.heap[r]? = some o) (ho : o.isCells = false) : w.shape? r = none := by
  unfold World.shape?; rw [h]; cases o <;> simp_all [Obj.isCells]
theorem shape_putObj (w : World) {r : Nat} (o : Obj) (hc : w.shape? r = none) (ho : o.isCells = false) (k : Nat) : (w.putObj r o).shape? k = w.shape? k := by
  by_cases e : k = r
  · subst e
    rw [hc]
    rcases Nat.lt_or_ge k w.heap.size with h | h
    · exact shape_none (World.putObj_heap_same h) ho
    · have : (w.putObj k o).heap[k]? = none := Array.getElem?_eq_none (by simpa using h)
      unfold World.shape?; rw [this]
  · unfold World.shape?; rw [World.putObj_heap_other e]

/-- From W to W': blocks may be new; of those that were, at most the ones of S are another. -/
structure Same (S : Nat → Prop) (W W' : World) : Prop where
  os : W'.os = W.os
  tape : W'.tape = W.tape
  output : W'.output = W.output
  size : W.heap.size ≤ W'.heap.size
  old : ∀ k, k < W.heap.size → ¬ S k → W'.heap[k]? = W.heap[k]?
  shp : ∀ k, k < W.heap.size → W'.shape? k = W.shape? k
namespace Same
variable {S T : Nat → Prop} {A B C : World}
theorem refl (S : Nat → Prop) (W : World) : Same S W W := ⟨rfl, rfl, rfl, Nat.le_refl _, fun _ _ _ => rfl, fun _ _ => rfl⟩
theorem mono (h : Same S A B) (hs : ∀ k, k < A.heap.size → S k → T k) : Same T A B := ⟨h.os, h.tape, h.output, h.size, fun k hk hn => h.old k hk (fun hh => hn (hs k hk hh)), h.shp⟩
/-- What is new in the second part may be changed, too. -/
theorem trans' (h : Same S A B) (g : Same T B C) (hT : ∀ k, T k → k < A.heap.size → S k) : Same S A C :=
  ⟨g.os.trans h.os, g.tape.trans h.tape, g.output.trans h.output, Nat.le_trans h.size g.size, fun k hk hn => (g.old k (Nat.lt_of_lt_of_le hk h.size) (fun hh => hn (hT k hh hk))).trans (h.old k hk hn),
    fun k hk => (g.shp k (Nat.lt_of_lt_of_le hk h.size)).trans (h.shp k hk)⟩
theorem trans (h : Same S A B) (g : Same S B C) : Same S A C := h.trans' g (fun _ hk _ => hk)
theorem block (h : Same S A B) {k : Nat} {o : Obj} (ho : A.heap[k]? = some o) (hk : ¬ S k) : B.heap[k]? = some o :=
  (h.old k (Array.getElem?_eq_some_iff.1 ho).1 hk).trans ho
theorem cell (h : Same S A B) {a : Addr} {v : Value} (hc : A.cell? a = some v) (hk : ¬ S a.block) : B.cell? a = some v := by
  have hlt := World.block_lt_of_cell? _ _ hc
  unfold World.cell? at hc ⊢
  rw [h.old _ hlt hk]; exact hc
theorem frozen (h : Same S A B) {a : Addr} (hlt : a.block < A.heap.size) (hk : ¬ S a.block) : B.frozen? a = A.frozen? a := by
  unfold World.frozen?
  rw [h.old _ hlt hk]
theorem unfrozen (h : Same S A B) {a : Addr} {v : Value} (hc : A.cell? a = some v) (hf : A.frozen? a = false) (hk : ¬ S a.block) : B.frozen? a = false :=
  (h.frozen (World.block_lt_of_cell? _ _ hc) hk).trans hf
theorem alloc (h : Same S A B) (o : Obj) : Same S A (B.alloc o) :=
  ⟨h.os, h.tape, h.output, by have := h.size; simp; omega, fun k hk hn => by
    have hlt := Nat.lt_of_lt_of_le hk h.size
    rw [← h.old k hk hn]; exact Below.heap_alloc B o k hlt, fun k hk => by
    have hlt := Nat.lt_of_lt_of_le hk h.size
    rw [← h.shp k hk]; unfold World.shape?; rw [Below.heap_alloc B o k hlt]⟩
theorem drewN (h : Same S A B) (n : Nat) : Same S A (B.drewN n) := ⟨h.os, h.tape, h.output, h.size, h.old, h.shp⟩
theorem drew (h : Same S A B) : Same S A B.drew := ⟨h.os, h.tape, h.output, h.size, h.old, h.shp⟩
theorem setCell (h : Same S A B) {a : Addr} (v : Value) (ha : A.heap.size ≤ a.block ∨ S a.block) : Same S A (B.setCell a v) :=
  ⟨h.os, h.tape, h.output, by have := h.size; simp; omega, fun k hk hn => by
    rw [← h.old k hk hn]
    refine Below.heap_setCell B a v k ?_
    intro e; subst e
    rcases ha with ha | ha
    · omega
    · exact hn ha, fun k hk => (shape_setCell B a v k).trans (h.shp k hk)⟩
theorem putObj (h : Same S A B) {r : Nat} (o : Obj) (ha : A.heap.size ≤ r ∨ S r) (hc : B.shape? r = none) (ho : o.isCells = false) : Same S A (B.putObj r o) :=
  ⟨h.os, h.tape, h.output, by have := h.size; simp; omega, fun k hk hn => by
    rw [← h.old k hk hn]
    refine World.putObj_heap_other ?_
    intro e; subst e
    rcases ha with ha | ha
    · omega
    · exact hn ha, fun k hk => (shape_putObj B o hc ho k).trans (h.shp k hk)⟩
theorem below (h : Same (fun _ => False) A B) : Below A.heap.size A B := ⟨h.os, h.tape, h.output, h.size, fun k hk => h.old k hk (by simp)⟩
end Same

/-- What a round must come to, by the way in which its body is left; the record's own turn is told by 'Same'. -/
def roundQ (l : Nat) (rec : LoopState → Option Code → Obj) (R : Ending → World → Prop) : Exit → Act → World → Prop
  | .normal, _, W => W.heap[l]? = some (rec .busy none) ∧ ∀ W', Same (· = l) W W' → W'.heap.size = W.heap.size → W'.heap[l]? = some (rec .ready none) → R (.returned (.bool true)) W'
  | .ret, _, W => W.heap[l]? = some (rec .busy none) ∧ ∀ W', Same (· = l) W W' → W'.heap.size = W.heap.size → W'.heap[l]? = some (rec .done (some .ret)) → R (.returned (.bool false)) W'
  | .exit id, _, W => W.heap[l]? = some (rec .busy none) ∧ ∀ W', Same (· = l) W W' → W'.heap.size = W.heap.size → W'.heap[l]? = some (rec .done (some (.exit id))) → R (.returned (.bool false)) W'
  | .goto t, _, W => W.heap[l]? = some (rec .busy none) ∧ ∀ W', Same (· = l) W W' → W'.heap.size = W.heap.size → W'.heap[l]? = some (rec .done (some (.goto t))) → R (.returned (.bool false)) W'
  | .panic _, _, _ => False
  | .outgrown, _, _ => False

/-- The rule of a round, of a record that is told by its states alone. -/
def RoundRule (P : Program) (n l : Nat) (tmps : Array Value) (ps : Array Tmp) (assign body : Code) (rec : LoopState → Option Code → Obj) : Prop :=
  ∀ (W : World) (args : Array Value) (R : Ending → World → Prop), W.heap[l]? = some (rec .ready none) → args.size = ps.size →
    assign.wpIn (Fence.wide.inRound l) n P (Exit.then (fun a1 W1 => W1.heap[l]? = some (rec .ready none) ∧
        ∀ W2, Same (· = l) W1 W2 → W2.heap.size = W1.heap.size → W2.heap[l]? = some (rec .busy none) →
          body.wpIn (Fence.wide.inRound l) n P (roundQ l rec R) a1 W2) (fun _ _ _ => False))
      { tmps := (ps.zip args).foldl (fun t (p, v) => t.setIfInBounds p v) tmps, defers := [] } W →
    YieldAt Fence.wide n P l args W R

theorem same_putObj {W : World} {l : Nat} (o : Obj) {o0 : Obj} (h0 : W.heap[l]? = some o0) (h1 : o0.isCells = false := by rfl) (h2 : o.isCells = false := by rfl) : Same (· = l) W (W.putObj l o) := (Same.refl _ W).putObj o (.inr rfl) (shape_none h0 h1) h2

theorem round_rule {P : Program} {n l : Nat} {fn : FuncId} {tmps : Array Value} {ps : Array Tmp} {assign body : Code} {D : Nat} :
    RoundRule P n l tmps ps assign body (lrec fn tmps ps assign body D) := by
  intro W args R hl hps h
  have hy := run_yield (P := P) (args := args) (r := { state := .ready, pending := none, fn, tmps, params := ps, assign, body, defers := D }) hl hps
  refine ⟨fn, _, assign, body, hy, roundIn_of_wpIn trivial (wpIn_mono h ?_)⟩
  intro e a1 W1 hq
  have hin : ∀ (W : World) (o o' : Obj), W.heap[l]? = some o → (W.putObj l o').heap[l]? = some o' := fun W o o' ho => World.putObj_heap_same (Array.getElem?_eq_some_iff.1 ho).1
  cases e with
  | normal =>
    obtain ⟨hl1, hb⟩ := hq
    refine ⟨_, run_beginRound hl1 rfl, wpIn_mono (hb _ (same_putObj _ hl1) (by simp) (hin _ _ _ hl1)) ?_⟩
    intro e a2 W2 hq2
    cases e with
    | normal => exact ⟨_, _, run_endRound none hq2.1, hq2.2 _ (same_putObj _ hq2.1) (by simp) (hin _ _ _ hq2.1)⟩
    | ret => exact ⟨_, _, run_endRound (some .ret) hq2.1, hq2.2 _ (same_putObj _ hq2.1) (by simp) (hin _ _ _ hq2.1)⟩
    | exit id => exact ⟨_, _, run_endRound (some (.exit id)) hq2.1, hq2.2 _ (same_putObj _ hq2.1) (by simp) (hin _ _ _ hq2.1)⟩
    | goto t => exact ⟨_, _, run_endRound (some (.goto t)) hq2.1, hq2.2 _ (same_putObj _ hq2.1) (by simp) (hin _ _ _ hq2.1)⟩
    | panic ch => exact hq2.elim
    | outgrown => exact hq2.elim
  | exit id => exact hq.elim
  | goto t => exact hq.elim
  | ret => exact hq.elim
  | panic ch => exact hq.elim
  | outgrown => exact hq.elim

/-- What the iterator must come to: it has run out, or a round has left by a jump. -/
def rangeQ (F : Fence) (P : Program) (n : Nat) (l : Nat) (rec : LoopState → Option Code → Obj) (Q : Exit → Act → World → Prop) (a' : Act) (e : Ending) (W : World) : Prop :=
  (∃ v, e = .returned v) ∧
    ((W.heap[l]? = some (rec .ready none) ∧ ∀ W', Same (· = l) W W' → W'.heap.size = W.heap.size → Q .normal a' W') ∨
      ∃ c, W.heap[l]? = some (rec .done (some c)) ∧ ∀ W', Same (· = l) W W' → W'.heap.size = W.heap.size → c.wpIn F n P Q a' W')

theorem same_alloc {W : World} (o : Obj) : Same (fun _ => False) W (W.alloc o) := (Same.refl _ W).alloc o

/-- 'for .. := range g { .. }', not within a round: D and L are the two blocks that it lays. -/
theorem range_wide {P : Program} {n : Nat} {g : Operand} {ps : Array Tmp} {assign body : Code} {Q : Exit → Act → World → Prop} {a : Act} {w : World} {gf : FuncId} {lb : Array Value}
    (hg : a.eval g = .func (.func gf) #[] lb) (eg : ∀ args w, (callFunc gf args).run P w = .ok (.enter gf args) w)
    (h : ∀ (rec : LoopState → Option Code → Obj) (D L : Nat) (W1 : World), w.heap.size ≤ D → D < L → RoundRule P n L a.tmps ps assign body rec →
        Same (fun _ => False) w W1 → W1.heap[L]? = some (rec .ready none) → W1.heap[D]? = some (.deferred (some [])) → (∀ st pe, (rec st pe).isCells = false) →
        Calls P gf (#[.func (.yield L) #[] #[]] ++ lb) W1 (rangeQ Fence.wide P n L rec Q { a with defers := { target := .collected D, args := #[] } :: a.defers })) :
    (Code.rangeFunc g ps assign body).wpIn Fence.wide n P Q a w := by
  refine wpIn_rangeFunc ?_
  intro fn _
  have H := h (lrec fn a.tmps ps assign body w.heap.size) w.heap.size (w.heap.size + 1) ((w.alloc (.deferred (some []))).alloc (lrec fn a.tmps ps assign body w.heap.size .ready none)) (Nat.le_refl _) (Nat.lt_succ_self _) round_rule
    ((same_alloc _).alloc _) (by have := World.alloc_heap_new (w.alloc (.deferred (some []))) (lrec fn a.tmps ps assign body w.heap.size .ready none); rwa [World.size_alloc] at this)
    ((Below.heap_alloc _ _ _ (by simp)).trans (World.alloc_heap_new w _)) (fun _ _ => rfl)
  obtain ⟨W1, hW1⟩ : ∃ W1, (w.alloc (.deferred (some []))).alloc (lrec fn a.tmps ps assign body w.heap.size .ready none) = W1 := ⟨_, rfl⟩
  rw [hW1] at H
  refine ⟨w.heap.size + 1, [{ target := .collected w.heap.size, args := #[] }], W1, { target := .fn (.func gf) lb, args := #[.func (.yield (w.heap.size + 1)) #[] #[]] }, W1, gf,
    #[.func (.yield (w.heap.size + 1)) #[] #[]] ++ lb, W1, ?_, ?_, fun _ _ => trivial, ?_, fun h => by simp [Fence.wide] at h, ?_⟩
  · rw [← hW1]; exact run_enterLoop_outer _ _ _ _ _
  · simp only [resolve, hg]
    simp [go_sem]
  · simp [invoke, go_sem, eg]
  · refine CallsIn.mono (callsIn_wide.2 H) ?_
    rintro e W ⟨⟨v, rfl⟩, ⟨hl, hq⟩ | ⟨c, hl, hq⟩⟩
    · exact ⟨none, _, run_endLoop hl (by simp), hq _ (same_putObj _ hl) (by simp)⟩
    · exact ⟨some c, _, run_endLoop hl (by simp), hq _ (same_putObj _ hl) (by simp)⟩

/-- '.. within a round of the loop l0' (the block of its record is D0's owner). -/
theorem range_inner {P : Program} {n l0 : Nat} {g : Operand} {ps : Array Tmp} {assign body : Code} {Q : Exit → Act → World → Prop} {a : Act} {w : World} {gf : FuncId} {lb : Array Value} {r0 : Loop}
    (hl0 : w.heap[l0]? = some (.loop r0))
    (hg : a.eval g = .func (.func gf) #[] lb) (eg : ∀ args w, (callFunc gf args).run P w = .ok (.enter gf args) w)
    (h : ∀ (rec : LoopState → Option Code → Obj) (L : Nat) (W1 : World), w.heap.size ≤ L → RoundRule P n L a.tmps ps assign body rec →
        Same (fun _ => False) w W1 → W1.heap[L]? = some (rec .ready none) → (∀ st pe, (rec st pe).isCells = false) →
        Calls P gf (#[.func (.yield L) #[] #[]] ++ lb) W1 (rangeQ (Fence.wide.inRound l0) P n L rec Q a)) :
    (Code.rangeFunc g ps assign body).wpIn (Fence.wide.inRound l0) n P Q a w := by
  refine wpIn_rangeFunc ?_
  intro fn _
  have he : (Instr.enterLoop fn a.tmps ps assign body (some l0)).run P w = .ok (w.heap.size, []) (w.alloc (lrec fn a.tmps ps assign body r0.defers .ready none)) := by
    unfold Instr.enterLoop
    simp only [Sem.run_bind, run_newObj_alloc, Result.andThen, Sem.run_pure, run_getLoop hl0]
    rfl
  have H := h (lrec fn a.tmps ps assign body r0.defers) w.heap.size (w.alloc (lrec fn a.tmps ps assign body r0.defers .ready none)) (Nat.le_refl _) round_rule (same_alloc _) (World.alloc_heap_new w _) (fun _ _ => rfl)
  obtain ⟨W1, hW1⟩ : ∃ W1, w.alloc (lrec fn a.tmps ps assign body r0.defers .ready none) = W1 := ⟨_, rfl⟩
  rw [hW1] at H he
  refine ⟨w.heap.size, [], W1, { target := .fn (.func gf) lb, args := #[.func (.yield w.heap.size) #[] #[]] }, W1, gf,
    #[.func (.yield w.heap.size) #[] #[]] ++ lb, W1, he, ?_, fun _ _ => trivial, ?_, fun h => by simp [Fence.wide, Fence.inRound] at h, ?_⟩
  · simp only [resolve, hg]
    simp [go_sem]
  · simp [invoke, go_sem, eg]
  · refine CallsIn.mono (CallsIn.inRound l0 (callsIn_wide.2 H)) ?_
    rintro e W ⟨⟨v, rfl⟩, ⟨hl, hq⟩ | ⟨c, hl, hq⟩⟩
    · exact ⟨none, _, run_endLoop hl (by simp), hq _ (same_putObj _ hl) (by simp)⟩
    · exact ⟨some c, _, run_endLoop hl (by simp), hq _ (same_putObj _ hl) (by simp)⟩

/-- The end of a function that held such a loop: the block for deferred calls is there, and empty. -/
theorem leaves_mark {P : Program} {n : Nat} {fn : Func} {tmps : Array Value} {R : Ending → World → Prop} {D : Nat} {w : World} {v : Value}
    (hD : w.heap[D]? = some (.deferred (some []))) (hv : ∀ W', Same (· = D) w W' → W'.heap.size = w.heap.size → (results fn tmps).run P W' = .ok v W' ∧ R (.returned v) W') :
    LeavesInM Fence.wide n P fn tmps R [{ target := .collected D, args := #[] }] .returning w := by
  refine ⟨by simp, .inl ⟨_, _, rfl, run_takeDeferred hD, ?_⟩⟩
  obtain ⟨h1, h2⟩ := hv (w.putObj D (.deferred none)) (same_putObj _ hD) (by simp)
  exact ⟨_, h1, h2⟩

/-! A region that draws its order, within a round, too. -/
section
variable {P : Program} {ops : Array Oper} {md : Region.Mode} {w : World}
/-- The fence of all functions, with or without a round. -/
def Wide (F : Fence) : Prop := F = Fence.wide ∨ ∃ l, F = Fence.wide.inRound l
theorem wide_self : Wide Fence.wide := .inl rfl
theorem wide_round (l : Nat) : Wide (Fence.wide.inRound l) := .inr ⟨l, rfl⟩
theorem Wide.fn {F : Fence} (h : Wide F) (f : FuncId) : F.fn f := by rcases h with rfl | ⟨l, rfl⟩ <;> trivial
theorem Wide.depth {F : Fence} (h : Wide F) : F.depth.isSome = true → False := by rcases h with rfl | ⟨l, rfl⟩ <;> (intro h; simp [Fence.wide, Fence.inRound] at h)
theorem Wide.calls {F : Fence} (h : Wide F) {n : Nat} {f : FuncId} {args : Array Value} {w : World} {R : Ending → World → Prop} (hc : Calls P f args w R) : CallsIn F n P f args w R := by
  rcases h with rfl | ⟨l, rfl⟩
  · exact callsIn_wide.2 hc
  · exact CallsIn.inRound l (callsIn_wide.2 hc)
def noDefer (ops : Array Oper) : Bool := ops.all fun o => match o.op with | .defer _ => false | _ => true
theorem noDefer_spec (h : noDefer ops = true) {i : Nat} {o : Oper} (ho : ops[i]? = some o) (F : Fence) (ρ : Operand → Value) : o.semAt F.round ρ = execOp ρ o := by
  refine Oper.semAt_plain F _ _ ?_
  intro c hc
  have h1 := Array.all_eq_true'.1 h o (Array.mem_of_getElem? ho)
  rw [hc] at h1
  cases h1
theorem wpOpIn_of_stOp {F : Fence} (hF : Wide F) {n i : Nat} (hnd : noDefer ops = true) {a : Act} {K : Act → Prop} {K' : Act → World → Prop} {Q' : Exit → Act → World → Prop} (h : ∀ a, K a → K' a w) (hh : stOp P ops w i K a) :
    wpOpIn F n P ops Q' i K' a w := by
  unfold stOp at hh
  unfold wpOpIn
  split
  · rename_i ho; simp only [ho] at hh; exact h _ hh
  · rename_i o ho
    simp only [ho] at hh
    split
    · rename_i hw
      simp only [hw, if_true] at hh
      unfold Oper.still at hh
      unfold Oper.wpIn
      refine ⟨fun _ _ => hF.fn _, ?_⟩
      rw [noDefer_spec hnd ho]
      generalize (execOp a.eval o).run P w = r at *
      cases r with
      | ok x w' =>
        cases x <;> simp only [Oper.stillUpon] at hh <;> simp only [Oper.uponIn]
        case enter f args =>
          obtain ⟨rfl, v, hc, hn⟩ := hh
          exact ⟨fun hd => (hF.depth hd).elim, hF.calls (hc.mono fun e w'' ⟨he, hw⟩ => by subst he; subst hw; exact h _ hn)⟩
        all_goals (obtain ⟨rfl, h2⟩ := hh; exact h _ h2)
      | halt x w' => simp only [Oper.stillUpon] at hh
    · rename_i hw; simp only [hw] at hh; exact ⟨fun _ _ => hF.fn _, h _ hh⟩
theorem wpAnyIn_of_head {F : Fence} (hF : Wide F) {n : Nat} (hnd : noDefer ops = true) {m g : Nat} {L : Array Bool → Act → Prop} {Q' : Exit → Act → World → Prop} (hL : ∀ listed a, L listed a → wpAnyIn F n P md ops Q' g listed a w) :
    ∀ (f : Nat) (listed : Array Bool) (a : Act), wpAnyL P md ops w m L f listed a → wpAnyIn F n P md ops Q' (f + g) listed a w
  | 0, listed, a, h => by rw [Nat.zero_add]; exact hL _ _ h
  | f + 1, listed, a, h => by
    rw [show f + 1 + g = (f + g) + 1 by omega]
    exact ⟨fun h0 => absurd h0 h.1, fun i hi => wpOpIn_of_stOp hF hnd (fun a' h' => wpAnyIn_of_head hF hnd hL f _ a' h') (h.2 i hi).2⟩
theorem wpAnyIn_of_seq {F : Fence} {n : Nat} (hF : Wide F) {Q' : Exit → Act → World → Prop} : ∀ (l : List Oper) (k : Nat) (listed : Array Bool) (a : Act) (w : World), (∀ j, l[j]? = ops[k + j]?) →
    Region.seqB md ops l.length k listed = true → wpListIn F n P ops Q' l a w → wpAnyIn F n P md ops Q' l.length listed a w
  | [], _, _, _, _, _, hB, h => ⟨by simpa [Region.seqB] using hB, h⟩
  | o :: l, k, listed, a, w, hl, hB, h => by
    have h0 : ops[k]? = some o := by simpa using (hl 0).symm
    simp only [List.length_cons, Region.seqB, Bool.and_eq_true, decide_eq_true_eq] at hB
    refine ⟨fun h1 => (by rw [hB.1] at h1; cases h1), fun i hi => ?_⟩
    rw [hB.1] at hi
    have hik : i = k := by simpa using hi
    subst hik
    have hw : wpOpIn F n P ops Q' i (wpListIn F n P ops Q' l) a w := by unfold wpOpIn; simp only [h0]; exact h
    exact wpOpIn_mono (fun a' w' h' => wpAnyIn_of_seq hF l (i + 1) _ a' w' (fun j => by have := hl (j + 1); simpa [Nat.add_assoc, Nat.add_comm 1 j] using this) hB.2 h') hw
/-- Reads in whatever order, then the last ones in theirs. -/
theorem wpIn_region_still_tail {F : Fence} (hF : Wide F) {nf : Nat} {id : Nat} {Q : Exit → Act → World → Prop} {a : Act} {w : World} {l : List Oper} (n : Nat) (hm : P.follows .mixedOrders = true) (hnd : noDefer l.toArray = true) (hB : Region.lexTailB .any l.toArray n = true)
    (h : wpStill P l.toArray w.drew (fun a' => wpListIn F nf P l.toArray Q (l.drop n) a' w.drew) (l.take n) a) : (Code.region id l.toArray true).wpIn F nf P Q a w := by
  simp only [Region.lexTailB, Bool.and_eq_true, decide_eq_true_eq] at hB
  obtain ⟨⟨⟨⟨hsel, hn⟩, hs⟩, hc⟩, hlex⟩ := hB
  have hn' : n < l.length := by simpa using hn
  have htl : (l.take n).length = n := by simp; omega
  have hdl : (l.drop n).length = l.toArray.size - n := by simp
  have inv0 : HeadInv .any l.toArray n (Array.replicate l.toArray.size false) :=
    ⟨by simp, fun j oj _ hl => (by rw [getD_replicate_false] at hl; cases hl), fun t _ ht => getD_in (by simpa using ht) (getD_replicate_false _ _)⟩
  have H := wpAnyL_lex (md := .any) (g := l.toArray.size - n) hsel hs hc hn (l.take n) 0 _ a (fun j hj => by
    have hj' : j < n := by rw [htl] at hj; exact hj
    simp [hj']) (by simpa using htl) inv0 (by rw [htl]; exact hlex) h
  refine wpIn_region_any hm ?_
  have := wpAnyIn_of_head hF (n := nf) hnd (Q' := Q) (g := l.toArray.size - n) (fun listed a' hL => by
    have := wpAnyIn_of_seq hF (md := .any) (Q' := Q) (l.drop n) n listed a' { w with drawn := w.drawn + 1 } (fun j => by simp [List.getElem?_drop]) (by rw [hdl]; exact hL.1) hL.2
    rwa [hdl] at this) _ _ _ H
  rw [htl, show n + (l.toArray.size - n) = l.toArray.size by omega] at this
  exact this

variable {C : World → Prop}
theorem wpOpIn_of_qOpIn' {F : Fence} (hF : Wide F) {n i : Nat} (hnd : noDefer ops = true) {a : Act} {K : Act → Prop} {K' : Act → World → Prop} {Q' : Exit → Act → World → Prop} (hC : C w) (h : ∀ a w', C w' → K a → K' a w')
    (hh : qOpIn Fence.wide n P ops C i K a) : wpOpIn F n P ops Q' i K' a w := by
  unfold qOpIn at hh
  unfold wpOpIn
  split
  · rename_i ho; simp only [ho] at hh; exact h _ _ hC hh
  · rename_i o ho
    simp only [ho] at hh
    obtain ⟨ha, hh⟩ := hh
    split
    · rename_i hw
      simp only [hw, if_true] at hh
      obtain ⟨v, h1, h2⟩ := hh
      have h3 := h1 w hC
      unfold Oper.quietAtIn at h3
      unfold Oper.wpIn
      refine ⟨fun _ _ => hF.fn _, ?_⟩
      rw [noDefer_spec hnd ho]
      generalize (execOp a.eval o).run P w = r at *
      cases r with
      | ok x w' =>
        cases x <;> simp only [Oper.quietUponIn] at h3 <;> simp only [Oper.uponIn]
        case value u =>
          obtain ⟨e1, e2⟩ := h3
          rw [e1, e2]
          exact h _ _ hC h2
        case skip =>
          obtain ⟨e1, e2⟩ := h3
          rw [e1, ← e2]
          exact h _ _ hC h2
        case enter f args =>
          obtain ⟨e1, hd, hc⟩ := h3
          rw [e1]
          exact ⟨fun hd => (hF.depth hd).elim, hF.calls ((callsIn_wide.1 hc).mono fun e w'' ⟨he, hw''⟩ => by subst he; exact h _ _ hw'' h2)⟩
      | halt x w' => simp only [Oper.quietUponIn] at h3
    · rename_i hw; simp only [hw] at hh; exact ⟨fun _ _ => hF.fn _, h _ _ hC hh⟩
theorem wpAnyIn_of_quiet' {F : Fence} (hF : Wide F) {n : Nat} (hnd : noDefer ops = true) {Q : Act → Prop} {Q' : Exit → Act → World → Prop} (hQ : ∀ a w, C w → Q a → Q' .normal a w) : ∀ (fuel : Nat) (listed : Array Bool) (a : Act) (w : World), C w →
    wpAnyQIn Fence.wide n P md ops C Q fuel listed a → wpAnyIn F n P md ops Q' fuel listed a w
  | 0, _, _, _, hw, h => ⟨h.1, hQ _ _ hw h.2⟩
  | fuel + 1, _, _, _, hw, h => ⟨fun h0 => hQ _ _ hw (h.1 h0), fun i hi => wpOpIn_of_qOpIn' hF hnd hw (fun a' w' hw' => wpAnyIn_of_quiet' hF hnd hQ fuel _ a' w' hw') (h.2 i hi)⟩
/-- Reads and calls that leave the world alone but for draws, in whatever order. -/
theorem wpIn_region_quiet' {F : Fence} (hF : Wide F) {n : Nat} {id : Nat} {Q : Exit → Act → World → Prop} {a : Act} {w : World} {l : List Oper} (hm : P.follows .mixedOrders = true) (hnd : noDefer l.toArray = true) (hB : Region.lexB .any l.toArray = true)
    (h : wpQuietIn Fence.wide n P l.toArray (fun w' => ∃ n, w' = w.drewN n) (fun a' => ∀ w', (∃ n, w' = w.drewN n) → Q .normal a' w') l a) : (Code.region id l.toArray true).wpIn F n P Q a w := by
  simp only [Region.lexB, Bool.and_eq_true] at hB
  refine wpIn_region_any hm (wpAnyIn_of_quiet' hF hnd (C := fun w' => ∃ n, w' = w.drewN n) (Q := fun a' => ∀ w', (∃ n, w' = w.drewN n) → Q .normal a' w') (fun _ w' hw' h => h w' hw') _ _ _ _ ⟨1, rfl⟩ ?_)
  have := wpAnyQIn_lex (F := Fence.wide) (n := n) (C := fun w' => ∃ n, w' = w.drewN n) (md := .any) hB.1 l 0 (Array.replicate l.toArray.size false) a (by simp) (by simpa using hB.2) h
  simpa using this
end

/-- .. of a function that held several. -/
theorem leaves_cons {P : Program} {n : Nat} {fn : Func} {tmps : Array Value} {R : Ending → World → Prop} {D : Nat} {w : World} {ds : List Deferred}
    (hD : w.heap[D]? = some (.deferred (some []))) (h : ∀ W', Same (· = D) w W' → W'.heap.size = w.heap.size → LeavesInM Fence.wide n P fn tmps R ds .returning W') :
    LeavesInM Fence.wide n P fn tmps R ({ target := .collected D, args := #[] } :: ds) .returning w :=
  ⟨by simp, .inl ⟨_, _, rfl, run_takeDeferred hD, h _ (same_putObj _ hD) (by simp)⟩⟩
theorem leaves_nil {P : Program} {n : Nat} {fn : Func} {tmps : Array Value} {R : Ending → World → Prop} {w : World} {v : Value}
    (h1 : (results fn tmps).run P w = .ok v w) (h2 : R (.returned v) w) : LeavesInM Fence.wide n P fn tmps R [] .returning w := ⟨_, h1, h2⟩

end Go.Proofs.Ytlbgnmcjdmdjpaa
namespace Go.Proofs.Ytlbgnmcjdmdjpaa
open Go.RowKit Go.Shelf

theorem runGet {P : Program} {w : World} {r : Nat} {es : Array MapEntry} {clk : Nat} (h : w.heap[r]? = some (.map es clk)) : (getObj r).run P w = .ok (.map es clk) w := by simp [getObj, Sem.run, h]
theorem runSet {P : Program} {w : World} {r : Nat} {es : Array MapEntry} {clk : Nat} (o : Obj) (h : w.heap[r]? = some (.map es clk)) : (setObj r o).run P w = .ok () (w.putObj r o) := by simp [setObj, Sem.run, h, World.putObj]
section
variable {κ : Type}
/-- Block m is a map that reads as al. -/
def MapIs (kv : κ → Value) (w : World) (m : Nat) (al : List (κ × Value)) : Prop :=
  ∃ es clk, w.heap[m]? = some (.map es clk) ∧ es.toList.map (fun e => (e.key, e.val)) = al.map (fun p => (kv p.1, p.2))
theorem MapIs.same {kv : κ → Value} {w w' : World} {m : Nat} {al : List (κ × Value)} {S : Nat → Prop} (h : MapIs kv w m al) (hs : Same S w w') (hm : ¬ S m) : MapIs kv w' m al := by
  obtain ⟨es, clk, h1, h2⟩ := h
  exact ⟨es, clk, hs.block h1 hm, h2⟩
theorem MapIs.lt {kv : κ → Value} {w : World} {m : Nat} {al : List (κ × Value)} (h : MapIs kv w m al) : m < w.heap.size := by
  obtain ⟨es, clk, h1, h2⟩ := h
  exact (Array.getElem?_eq_some_iff.1 h1).1
theorem MapIs.drewN {kv : κ → Value} {w : World} {m : Nat} {al : List (κ × Value)} (h : MapIs kv w m al) (n : Nat) : MapIs kv (w.drewN n) m al := h

end
section
variable {κ : Type} [DecidableEq κ]
def aidx : List (κ × Value) → κ → Option Nat
  | [], _ => none
  | p :: r, n => if n = p.1 then some 0 else (aidx r n).map (· + 1)
def aget : List (κ × Value) → κ → Option Value
  | [], _ => none
  | p :: r, n => if n = p.1 then some p.2 else aget r n
def aset : List (κ × Value) → κ → Value → List (κ × Value)
  | [], n, x => [(n, x)]
  | p :: r, n, x => if n = p.1 then (p.1, x) :: r else p :: aset r n x
def adel : List (κ × Value) → κ → List (κ × Value)
  | [], _ => []
  | p :: r, n => if n = p.1 then r else p :: adel r n

theorem aidx_get (al : List (κ × Value)) (n : κ) : ((aidx al n).bind fun j => (al[j]?).map fun p => (j, p.2)) = (aidx al n).bind fun j => (aget al n).map fun v => (j, v) := by
  induction al with
  | nil => rfl
  | cons p r ih =>
    simp only [aidx, aget]
    split
    · rfl
    · cases h : aidx r n with
      | none => simp
      | some j =>
        rw [h] at ih
        simp only [Option.bind_some] at ih
        simp only [Option.map_some, Option.bind_some, List.getElem?_cons_succ]
        cases hr : r[j]? <;> cases hg : aget r n <;> simp_all
theorem aidx_none {al : List (κ × Value)} {n : κ} (h : aidx al n = none) : aget al n = none ∧ ∀ x, aset al n x = al ++ [(n, x)] := by
  induction al with
  | nil => exact ⟨rfl, fun _ => rfl⟩
  | cons p r ih =>
    simp only [aidx] at h
    split at h
    · simp at h
    · rename_i hn
      simp only [Option.map_eq_none_iff] at h
      obtain ⟨h1, h2⟩ := ih h
      exact ⟨by simp [aget, hn, h1], fun x => by simp [aset, hn, h2]⟩
theorem adel_none {al : List (κ × Value)} {n : κ} (h : aidx al n = none) : adel al n = al := by
  induction al with
  | nil => rfl
  | cons p r ih =>
    simp only [aidx] at h
    split at h
    · simp at h
    · rename_i hn
      simp only [Option.map_eq_none_iff] at h
      simp [adel, hn, ih h]
theorem aidx_some {al : List (κ × Value)} {n : κ} {j : Nat} (h : aidx al n = some j) : ∃ v, al[j]? = some (n, v) ∧ aget al n = some v ∧ (∀ x, aset al n x = al.set j (n, x)) ∧ adel al n = al.eraseIdx j := by
  induction al generalizing j with
  | nil => simp [aidx] at h
  | cons p r ih =>
    simp only [aidx] at h
    split at h
    · rename_i hn
      cases h
      subst hn
      exact ⟨p.2, by simp, by simp [aget], fun x => by simp [aset], by simp [adel]⟩
    · rename_i hn
      simp only [Option.map_eq_some_iff] at h
      obtain ⟨i, hi, rfl⟩ := h
      obtain ⟨v, h1, h2, h3, h4⟩ := ih hi
      exact ⟨v, by simpa using h1, by simp [aget, hn, h2], fun x => by simp [aset, hn, h3], by simp [adel, hn, h4]⟩
theorem aget_aset (al : List (κ × Value)) (n q : κ) (x : Value) : aget (aset al n x) q = if q = n then some x else aget al q := by
  induction al with
  | nil => simp [aset, aget]
  | cons p r ih =>
    simp only [aset]
    split
    · rename_i h
      simp only [aget]
      by_cases e : q = p.1
      · simp [e, h]
      · have : ¬ q = n := fun e' => e (e'.trans h)
        simp [e, this]
    · rename_i h
      simp only [aget, ih]
      by_cases e : q = p.1
      · have : ¬ q = n := fun e' => h (e'.symm.trans e)
        simp [e, this]
        intro e'; exact absurd e'.symm h
      · simp [e]
theorem mem_aset {al : List (κ × Value)} {n : κ} {x : Value} {p : κ × Value} (h : p ∈ aset al n x) : p = (n, x) ∨ p ∈ al := by
  induction al with
  | nil => simpa [aset] using h
  | cons q r ih =>
    simp only [aset] at h
    split at h
    · rename_i hn
      rcases List.mem_cons.1 h with rfl | h
      · exact .inl (by rw [hn])
      · exact .inr (List.mem_cons_of_mem _ h)
    · rcases List.mem_cons.1 h with rfl | h
      · exact .inr List.mem_cons_self
      · rcases ih h with h | h
        · exact .inl h
        · exact .inr (List.mem_cons_of_mem _ h)
theorem keys_aset {al : List (κ × Value)} {n : κ} {x : Value} : (aset al n x).map (·.1) = if n ∈ al.map (·.1) then al.map (·.1) else al.map (·.1) ++ [n] := by
  induction al with
  | nil => simp [aset]
  | cons q r ih =>
    simp only [aset]
    split
    · rename_i h; simp [h]
    · rename_i h
      simp only [List.map_cons, ih, List.mem_cons, h, false_or]
      split <;> simp
theorem aget_none {al : List (κ × Value)} {n : κ} : aget al n = none ↔ n ∉ al.map (·.1) := by
  induction al with
  | nil => simp [aget]
  | cons q r ih =>
    simp only [aget, List.map_cons, List.mem_cons, not_or]
    split
    · rename_i h; simp [h]
    · rename_i h; rw [ih]; simp [h]
theorem aget_mem {al : List (κ × Value)} {n : κ} {v : Value} (h : aget al n = some v) : (n, v) ∈ al := by
  induction al with
  | nil => simp [aget] at h
  | cons q r ih =>
    simp only [aget] at h
    split at h
    · rename_i hn; cases h; rw [hn]; exact List.mem_cons_self
    · exact List.mem_cons_of_mem _ (ih h)
theorem aget_of_mem {al : List (κ × Value)} {n : κ} {v : Value} (hnd : (al.map (·.1)).Nodup) (h : (n, v) ∈ al) : aget al n = some v := by
  induction al with
  | nil => simp at h
  | cons q r ih =>
    simp only [List.map_cons, List.nodup_cons] at hnd
    simp only [aget]
    rcases List.mem_cons.1 h with rfl | h
    · simp
    · have : n ∈ r.map (·.1) := List.mem_map.2 ⟨_, h, rfl⟩
      have hn : n ≠ q.1 := fun e => hnd.1 (e ▸ this)
      simp [hn, ih hnd.2 h]
theorem mem_adel {al : List (κ × Value)} {n : κ} {p : κ × Value} (h : p ∈ adel al n) : p ∈ al := by
  induction al with
  | nil => simp [adel] at h
  | cons q r ih =>
    simp only [adel] at h
    split at h
    · exact List.mem_cons_of_mem _ h
    · rcases List.mem_cons.1 h with rfl | h
      · exact List.mem_cons_self
      · exact List.mem_cons_of_mem _ (ih h)
theorem keys_adel_sub (al : List (κ × Value)) (n : κ) : ((adel al n).map (·.1)).Sublist (al.map (·.1)) := by
  induction al with
  | nil => simp [adel]
  | cons q r ih =>
    simp only [adel]
    split
    · simp
    · simpa using ih
theorem aget_adel {al : List (κ × Value)} (hnd : (al.map (·.1)).Nodup) (n q : κ) : aget (adel al n) q = if q = n then none else aget al q := by
  induction al with
  | nil => simp [adel, aget]
  | cons p r ih =>
    simp only [List.map_cons, List.nodup_cons] at hnd
    simp only [adel]
    split
    · rename_i h
      by_cases e : q = n
      · simp only [e, if_true]
        rw [aget_none]; rw [h]; exact hnd.1
      · have : ¬ q = p.1 := fun e' => e (e'.trans h.symm)
        simp [e, aget, this]
    · rename_i h
      simp only [aget, ih hnd.2]
      by_cases e : q = p.1
      · have : ¬ q = n := fun e' => h (e'.symm.trans e)
        simp [e, this]
        intro e'; exact absurd e'.symm h
      · simp [e]

/-- What the walk asks of a key's type. -/
structure KeyLaw (P : Program) (K : TypeId) (kv : κ → Value) : Prop where
  check : ∀ e n W, (Instr.checkKey e 10000 K (kv n)).run P W = .ok () W
  find : ∀ n (l : List MapEntry) (al : List (κ × Value)) W, l.map (fun e => (e.key, e.val)) = al.map (fun p => (kv p.1, p.2)) →
    (Instr.findKey K (kv n) l).run P W = .ok ((aidx al n).bind fun j => (aget al n).map fun v => (j, v)) W
  stays : ∀ n W, (Instr.keyThatStays (kv n) (kv n)).run P W = .ok (kv n) W

variable {P : Program} {T K E : TypeId} {kv : κ → Value}
theorem run_lookup_is (hT : P.underlying T = some (.map K E)) (hK : KeyLaw P K kv) {z : Value} (hz : ∀ W, (zeroValue E).run P W = .ok z W) {w : World} {m : Nat} {al : List (κ × Value)} (hm : MapIs kv w m al) (n : κ) (ok : Bool) :
    (Instr.lookup T (.map (some m)) (kv n) ok).run P w = .ok (if ok then .tuple #[(aget al n).getD z, .bool (aget al n).isSome] else (aget al n).getD z) w := by
  obtain ⟨es, clk, h1, h2⟩ := hm
  have hf := hK.find n es.toList al w h2
  unfold Instr.lookup
  simp only [Sem.run_bind, run_underlying hT, runGet h1, Result.andThen, Sem.run_pure, hK.check, hf]
  cases hi : aidx al n with
  | none =>
    obtain ⟨h3, _⟩ := aidx_none hi
    simp only [Option.bind_none, Sem.run_bind, hz, Result.andThen, Sem.run_pure, h3]
    cases ok <;> rfl
  | some j =>
    obtain ⟨v, _, h3, _⟩ := aidx_some hi
    simp only [Option.bind_some, h3, Option.map_some, Sem.run_pure, Result.andThen]
    cases ok <;> rfl

theorem run_mapUpdate_is (hT : P.underlying T = some (.map K E)) (hK : KeyLaw P K kv) {w : World} {m : Nat} {al : List (κ × Value)} (hm : MapIs kv w m al) (n : κ) (v : Value) :
    ∃ w', (Instr.mapUpdate T (.map (some m)) (kv n) v).run P w = .ok () w' ∧ Same (· = m) w w' ∧ w'.heap.size = w.heap.size ∧ MapIs kv w' m (aset al n v) := by
  obtain ⟨es, clk, h1, h2⟩ := hm
  have hf := hK.find n es.toList al w h2
  have hlt := (Array.getElem?_eq_some_iff.1 h1).1
  have hlen : es.size = al.length := by have := congrArg List.length h2; simpa using this
  unfold Instr.mapUpdate
  simp only [Sem.run_bind, run_underlying hT, runGet h1, Result.andThen, hK.check, hf]
  cases hi : aidx al n with
  | none =>
    obtain ⟨_, h3⟩ := aidx_none hi
    simp only [Option.bind_none, runSet _ h1]
    refine ⟨_, rfl, same_putObj _ h1, by simp, _, _, World.putObj_heap_same hlt, ?_⟩
    rw [h3]
    simp [h2]
  | some j =>
    obtain ⟨u, h4, h3, h5, _⟩ := aidx_some hi
    simp only [Option.bind_some, h3, Option.map_some]
    have hj : j < es.size := by rw [hlen]; exact (List.getElem?_eq_some_iff.1 h4).1
    have hkey : (es[j]?).map (·.key) = some (kv n) := by
      have h6 : (es.toList.map (fun e => (e.key, e.val)))[j]? = some (kv n, u) := by rw [h2]; simp [h4]
      rw [List.getElem?_map, Array.getElem?_toList] at h6
      cases hes : es[j]? with
      | none => simp [hes] at h6
      | some e => simp [hes] at h6; simp [h6.1]
    simp only [hkey, Option.getD_some, hK.stays, Sem.run_bind, Result.andThen, runSet _ h1]
    refine ⟨_, rfl, same_putObj _ h1, by simp, _, _, World.putObj_heap_same hlt, ?_⟩
    rw [h5]
    apply List.ext_getElem?
    intro i
    have h7 := congrArg (fun l => l[i]?) h2
    simp only [List.getElem?_map, Array.getElem?_toList, Array.getElem?_modify, List.getElem?_set] at h7 ⊢
    by_cases e : j = i
    · subst e
      have hj' : j < al.length := by omega
      simp [hj, hj']
    · simp only [e, if_false]
      simpa using h7

theorem run_delete_is (hT : P.underlying T = some (.map K E)) (hK : KeyLaw P K kv) {w : World} {m : Nat} {al : List (κ × Value)} (hm : MapIs kv w m al) (n : κ) (T2 T3 : TypeId) :
    ∃ w', (Builtin.delete_ #[T, T2] T3 #[.map (some m), kv n]).run P w = .ok (.tuple #[]) w' ∧ Same (· = m) w w' ∧ w'.heap.size = w.heap.size ∧ MapIs kv w' m (adel al n) := by
  obtain ⟨es, clk, h1, h2⟩ := hm
  have hf := hK.find n es.toList al w h2
  have hlt := (Array.getElem?_eq_some_iff.1 h1).1
  have hlen : es.size = al.length := by have := congrArg List.length h2; simpa using this
  unfold Builtin.delete_
  simp only [List.getElem?_toArray, List.getElem?_cons_zero, List.getElem?_cons_succ, Sem.run_bind, run_underlying hT, runGet h1, Result.andThen, hK.check, hf]
  cases hi : aidx al n with
  | none =>
    simp only [Option.bind_none, Sem.run_bind, runSet _ h1, Result.andThen, Sem.run_pure]
    refine ⟨_, rfl, same_putObj _ h1, by simp, _, _, World.putObj_heap_same hlt, ?_⟩
    rw [adel_none hi, h2]
  | some j =>
    obtain ⟨u, h4, h3, _, h5⟩ := aidx_some hi
    simp only [Option.bind_some, h3, Option.map_some, Sem.run_bind, runSet _ h1, Result.andThen, Sem.run_pure]
    refine ⟨_, rfl, same_putObj _ h1, by simp, _, _, World.putObj_heap_same hlt, ?_⟩
    have hj : j < es.size := by rw [hlen]; exact (List.getElem?_eq_some_iff.1 h4).1
    rw [h5]
    have hmap : ∀ {α β : Type} (f : α → β) (l : List α) (i : Nat), (l.eraseIdx i).map f = (l.map f).eraseIdx i := by
      intro α β f l
      induction l with
      | nil => intro i; simp
      | cons x l ih => intro i; cases i <;> simp [ih]
    rw [hmap, ← h2, ← hmap]
    simp [Array.eraseIdxIfInBounds, hj]

theorem wpListIn_mapUpdate_is {F : Fence} {nF : Nat} {w : World} {ops : Array Oper} {rest : List Oper} {o : Oper} {a : Act} {Q : Exit → Act → World → Prop}
    (hg : o.guard = none) (m x v : Operand) (hop : o.op = Op.mapUpdate T m x v) (hT : P.underlying T = some (.map K E)) (hK : KeyLaw P K kv) {r : Nat} {al : List (κ × Value)} (hm : MapIs kv w r al)
    (e1 : a.eval m = .map (some r)) (n : κ) (e2 : a.eval x = kv n) {vv : Value} (e3 : a.eval v = vv)
    (h : ∀ w1, Same (· = r) w w1 → w1.heap.size = w.heap.size → MapIs kv w1 r (aset al n vv) → wpListIn F nF P ops Q rest (a.put o.dst undef) w1) :
    wpListIn F nF P ops Q (o :: rest) a w := by
  refine wpListIn_plain hg fun K' hK' => ?_
  obtain ⟨w', hrun, r1, r2, r3⟩ := run_mapUpdate_is hT hK hm n vv
  unfold Oper.wpIn
  refine ⟨by simp [Oper.about, hop], ?_⟩
  rw [Oper.semAt_plain F _ _ (by rw [hop]; intro c hc'; cases hc')]
  simp [execOp, hop, e1, e2, e3, hrun, Result.andThen]
  exact hK' _ _ (h w' r1 r2 r3)
theorem wpList_mapUpdate_is {w : World} {ops : Array Oper} {rest : List Oper} {o : Oper} {a : Act} {Q : Exit → Act → World → Prop}
    (hg : o.guard = none) (m x v : Operand) (hop : o.op = Op.mapUpdate T m x v) (hT : P.underlying T = some (.map K E)) (hK : KeyLaw P K kv) {r : Nat} {al : List (κ × Value)} (hm : MapIs kv w r al)
    (e1 : a.eval m = .map (some r)) (n : κ) (e2 : a.eval x = kv n) {vv : Value} (e3 : a.eval v = vv)
    (h : ∀ w1, Same (· = r) w w1 → w1.heap.size = w.heap.size → MapIs kv w1 r (aset al n vv) → wpList P ops Q rest (a.put o.dst undef) w1) :
    wpList P ops Q (o :: rest) a w := by
  refine wpList_plain hg fun K' hK' => ?_
  obtain ⟨w', hrun, r1, r2, r3⟩ := run_mapUpdate_is hT hK hm n vv
  unfold Oper.wp
  simp [execOp, hop, e1, e2, e3, hrun, Result.andThen]
  exact hK' _ _ (h w' r1 r2 r3)
theorem wpListIn_delete_is {F : Fence} {nF : Nat} {w : World} {ops : Array Oper} {rest : List Oper} {o : Oper} {a : Act} {Q : Exit → Act → World → Prop} {T2 : TypeId}
    (hg : o.guard = none) (m x : Operand) (hop : o.op = Op.call { callee := Callee.builtin Builtin.delete, args := #[m, x], argTypes := #[T, T2] }) (hT : P.underlying T = some (.map K E)) (hK : KeyLaw P K kv) {r : Nat} {al : List (κ × Value)} (hm : MapIs kv w r al)
    (e1 : a.eval m = .map (some r)) (n : κ) (e2 : a.eval x = kv n)
    (h : ∀ w1, Same (· = r) w w1 → w1.heap.size = w.heap.size → MapIs kv w1 r (adel al n) → wpListIn F nF P ops Q rest (a.put o.dst (.tuple #[])) w1) :
    wpListIn F nF P ops Q (o :: rest) a w := by
  refine wpListIn_plain hg fun K' hK' => ?_
  obtain ⟨w', hrun, r1, r2, r3⟩ := run_delete_is hT hK hm n T2 o.type
  unfold Oper.wpIn
  refine ⟨by simp [Oper.about, hop, resolve, Target.leads, Sem.run_pure], ?_⟩
  rw [Oper.semAt_plain F _ _ (by rw [hop]; intro c hc'; cases hc')]
  simp [execOp, hop, resolve, invoke, builtin, e1, e2, hrun, Result.andThen]
  exact hK' _ _ (h w' r1 r2 r3)
theorem wpList_delete_is {w : World} {ops : Array Oper} {rest : List Oper} {o : Oper} {a : Act} {Q : Exit → Act → World → Prop} {T2 : TypeId}
    (hg : o.guard = none) (m x : Operand) (hop : o.op = Op.call { callee := Callee.builtin Builtin.delete, args := #[m, x], argTypes := #[T, T2] }) (hT : P.underlying T = some (.map K E)) (hK : KeyLaw P K kv) {r : Nat} {al : List (κ × Value)} (hm : MapIs kv w r al)
    (e1 : a.eval m = .map (some r)) (n : κ) (e2 : a.eval x = kv n)
    (h : ∀ w1, Same (· = r) w w1 → w1.heap.size = w.heap.size → MapIs kv w1 r (adel al n) → wpList P ops Q rest (a.put o.dst (.tuple #[])) w1) :
    wpList P ops Q (o :: rest) a w := by
  refine wpList_plain hg fun K' hK' => ?_
  obtain ⟨w', hrun, r1, r2, r3⟩ := run_delete_is hT hK hm n T2 o.type
  unfold Oper.wp
  simp [execOp, hop, resolve, invoke, builtin, e1, e2, hrun, Result.andThen]
  exact hK' _ _ (h w' r1 r2 r3)
end

theorem findNow_int {al : List (Int × Value)} {l : List MapEntry} (n : Int) (i : Nat) (h : l.map (fun e => (e.key, e.val)) = al.map (fun p => (Value.int .i64 p.1, p.2))) :
    Instr.findNow (.int .i64) (.int .i64 n) l i = some ((aidx al n).bind fun j => (aget al n).map fun v => (i + j, v)) := by
  induction l generalizing al i with
  | nil =>
    cases al with
    | nil => rfl
    | cons p r => simp at h
  | cons e l ih =>
    cases al with
    | nil => simp at h
    | cons p r =>
      simp only [List.map_cons, List.cons.injEq, Prod.mk.injEq] at h
      obtain ⟨⟨hk, hv⟩, hr⟩ := h
      simp only [Instr.findNow, hk, Instr.sameNow, if_true, aidx, aget]
      by_cases e1 : n = p.1
      · subst e1; simp [hv]
      · have : (n == p.1) = false := by simpa using e1
        simp only [this, e1, if_false, ih (i + 1) hr]
        cases aidx r n <;> simp
        cases aget r n <;> simp
        omega
theorem key_int {P : Program} {K : TypeId} (hK : P.underlying K = some (.int .i64)) : KeyLaw P K (fun n : Int => Value.int .i64 n) where
  check e n W := by
    unfold Instr.checkKey
    simp only [Sem.run_bind, run_underlying hK, Result.andThen, Sem.run_pure]
  find n l al W h := by
    unfold Instr.findKey
    simp only [Sem.run_bind, run_underlying hK, Result.andThen, findNow_int n 0 h, Nat.zero_add, Sem.run_pure]
  stays n W := by
    unfold Instr.keyThatStays
    simp [Instr.sameBits]

end Go.Proofs.Ytlbgnmcjdmdjpaa
namespace Go.Proofs.Ytlbgnmcjdmdjpaa
open Go.RowKit Go.Shelf Go.World
theorem same_of_heap {S : Nat → Prop} {w w' : World} (h0 : w'.os = w.os) (h1 : w'.tape = w.tape) (h2 : w'.output = w.output) (hz : w'.heap.size = w.heap.size) (hold : ∀ k, ¬ S k → w'.heap[k]? = w.heap[k]?) (hs : ∀ k, S k → w'.shape? k = w.shape? k) : Same S w w' :=
  ⟨h0, h1, h2, by omega, fun k _ hk => hold k hk, fun k _ => by
    by_cases hk : S k
    · exact hs k hk
    · unfold World.shape?; rw [hold k hk]⟩
theorem run_append_same {P : Program} (w : World) (base : Nat) (t ty e : TypeId) (i : TypeInfo) (z : Value) (size bytes : Nat) (ht : P.underlying t = some (.slice e)) (hi : P.info? e = some i) (hz : i.zero = some z)
    (hsize : i.size = size) (hby : i.bytes = bytes) (hzs : z.cells.size = size) (hsz : 0 < size)
    (v : Value) (n : Nat) (xs : List Value) (hown : w.ownsRow base e size v n xs)
    (a : Addr) (m c : Nat) (news : List Value) (hl : news.length = m * size) (hnews : ∀ j u, news[j]? = some u → w.cell? (a.add j) = some u) (h1 : ∀ u ∈ news, u.oneCell' = true)
    (h63 : n + m ≤ maxLen) (hbytes : (n + m) * bytes ≤ 140737488355328) (hbase : base ≤ w.heap.size) :
    ∃ v' w', (Builtin.append_ #[t, t] ty #[v, .slice (some a) m c]).run P w = .ok v' w' ∧ w'.ownsRow base e size v' (n + m) (xs ++ news) ∧ Same (fun k => v.ownBlock = some k) w w' ∧ (∀ g, v'.ownBlock = some g → v.ownBlock = some g ∨ w.heap.size ≤ g) := by
  subst hsize
  subst hby
  have hsmall : n + m ≤ 9223372036854775807 := by simp only [maxLen] at h63; omega
  have hlen : (xs ++ news).length = (n + m) * i.size := by rw [List.length_append, hown.1, hl, Nat.add_mul]
  have grown : ∀ (old : Nat), old < n + m → ∀ (S : Nat → Prop),
      (w.drew.alloc (.cells (xs.toArray ++ news.toArray ++ Builtin.zeroCells z.cells (grownCap w (n + m) old e - (n + m))) e)).ownsRow base e i.size
        (.slice (some ⟨w.heap.size, 0, none⟩) (n + m) (grownCap w (n + m) old e)) (n + m) (xs ++ news) ∧
      Same S w (w.drew.alloc (.cells (xs.toArray ++ news.toArray ++ Builtin.zeroCells z.cells (grownCap w (n + m) old e - (n + m))) e)) := by
    intro old ho S
    have hge := grownCap_ge w (n + m) old e
    have hcm : grownCap w (n + m) old e ≤ maxLen := grownCap_le_maxLen w (n + m) old e h63
    refine ⟨⟨hlen, .inr ⟨w.heap.size, _, _, rfl, hbase, heap_alloc_new w.drew _, hge, hcm, ?_, ?_⟩⟩, (Same.refl S w).drew.alloc _⟩
    · simp only [Array.size_append, List.size_toArray, size_zeroCells, hzs, hown.1, hl, ← Nat.add_mul]
      congr 1
      omega
    · simp only [Array.toList_append, List.append_assoc]
      rw [← List.append_assoc, ← hlen]
      exact List.take_left
  rcases hown.2 with ⟨rfl, rfl⟩ | ⟨g, cap, cur, rfl, hbg, hg, hnc, hcm, hcs, htake⟩
  · have hx : xs = [] := List.eq_nil_of_length_eq_zero (by simpa using hown.1)
    subst hx
    by_cases hm : m = 0
    · subst hm
      have hn : news = [] := List.eq_nil_of_length_eq_zero (by simpa using hl)
      subst hn
      refine ⟨.slice none 0 0, w, ?_, World.ownsRow_nil w base e i.size, Same.refl _ _, fun g hg => .inl hg⟩
      simp [Builtin.append_, run_underlying ht, sizeOf, typeInfo, hi, Builtin.lenOf, Builtin.firstCells, loadCells, loadCellsFrom]
    · have hr := run_append_nil (P := P) w t ty e i z ht hi hz a m c news hl hnews (by omega) (by omega) (by have hb := hbytes; simp only [Nat.zero_add] at hb; omega)
      have hgr := grown 0 (by omega) (fun k => Value.ownBlock (.slice none 0 0) = some k)
      simp only [Nat.zero_add, List.nil_append, Array.empty_append] at hgr ⊢
      exact ⟨_, _, hr, hgr.1, hgr.2, fun g hg => .inr (by simp only [Value.ownBlock, Option.some.injEq] at hg; omega)⟩
  · by_cases hroom : n + m ≤ cap
    · have hfit : n * i.size + news.length ≤ cur.size := by rw [hl, hcs, ← Nat.add_mul]; exact Nat.mul_le_mul_right _ hroom
      have hr := run_append_room (P := P) w t ty e i ht hi g n cap cur hg a m c news hl hnews h1 hroom hfit
      refine ⟨_, _, hr, ⟨hlen, .inr ⟨g, cap, _, rfl, hbg, setRow_heap w g cur _ e _ hg, hroom, hcm, ?_, ?_⟩⟩, same_of_heap rfl rfl rfl (by simp) (fun k hk => setRow_other w g k _ (fun e => hk (by simp [Value.ownBlock, e]))) ?_, fun x hx => .inl hx⟩
      · simp only [List.size_toArray, List.length_append, List.length_take, List.length_drop, Array.length_toList]
        omega
      · rw [htake, ← hlen]
        exact List.take_left
      · intro k hk
        simp only [Value.ownBlock, Option.some.injEq] at hk
        subst hk
        unfold World.shape?
        rw [setRow_heap w g cur _ e _ hg, hg]
        simp only [List.size_toArray, List.length_append, List.length_take, List.length_drop, Array.length_toList, Option.some.injEq, Prod.mk.injEq, true_and]
        omega
    · have holds : ∀ j u, xs[j]? = some u → w.cell? ((⟨g, 0, none⟩ : Addr).add j) = some u := hown.cells (g := g) rfl
      have hr := run_append_grow (P := P) w t ty e i z ht hi hz ⟨g, 0, none⟩ n cap xs hown.1 holds a m c news hl hnews (by omega) (by omega) (growslice_fits (by omega) hbytes)
      have hgr := grown cap (by omega) (fun k => Value.ownBlock (.slice (some ⟨g, 0, none⟩) n cap) = some k)
      exact ⟨_, _, hr, hgr.1, hgr.2, fun g hg => .inr (by simp only [Value.ownBlock, Option.some.injEq] at hg; omega)⟩
theorem wpListIn_append_same {F : Fence} {n : Nat} {P : Program} {w : World} {ops : Array Oper} {rest : List Oper} {o : Oper} {a : Act} {Q : Exit → Act → World → Prop}
    (hg : o.guard = none) (s x : Operand) (t : TypeId) (hop : o.op = Op.call { callee := Callee.builtin Builtin.append, args := #[s, x], argTypes := #[t, t] })
    (base : Nat) (e : TypeId) (i : TypeInfo) (z : Value) (size bytes : Nat) (h1 : P.underlying t = some (.slice e)) (h2 : P.info? e = some i) (h3 : i.zero = some z) (h4 : i.size = size) (h5 : i.bytes = bytes) (h6 : z.cells.size = size) (h7 : 0 < size)
    (v : Value) (k : Nat) (xs : List Value) (hs : a.eval s = v) (hown : w.ownsRow base e size v k xs) (ad : Addr) (m c : Nat) (news : List Value) (hx : a.eval x = .slice (some ad) m c) (hn : news.length = m * size)
    (hc : ∀ j u, news[j]? = some u → w.cell? (ad.add j) = some u) (h1c : ∀ u ∈ news, u.oneCell' = true) (b1 : k + m ≤ maxLen) (b2 : (k + m) * bytes ≤ 140737488355328) (b3 : base ≤ w.heap.size)
    (hK : ∀ v' w', w'.ownsRow base e size v' (k + m) (xs ++ news) → Same (fun k => v.ownBlock = some k) w w' → (∀ g, v'.ownBlock = some g → v.ownBlock = some g ∨ w.heap.size ≤ g) → wpListIn F n P ops Q rest (a.put o.dst v') w') :
    wpListIn F n P ops Q (o :: rest) a w := by
  refine wpListIn_plain hg fun K hK' => ?_
  obtain ⟨v', w', hrun, r1, r2, r3⟩ := run_append_same (P := P) w base t o.type e i z size bytes h1 h2 h3 h4 h5 h6 h7 v k xs hown ad m c news hn hc h1c b1 b2 b3
  unfold Oper.wpIn
  refine ⟨?_, ?_⟩
  · simp [Oper.about, hop, resolve, Target.leads, Sem.run_pure]
  · rw [Oper.semAt_plain F _ _ (by rw [hop]; intro c hc'; cases hc')]
    simp [execOp, hop, resolve, invoke, builtin, hs, hx, hrun, Result.andThen]
    exact hK' _ _ (hK v' w' r1 r2 r3)
theorem wpList_append_same {P : Program} {w : World} {ops : Array Oper} {rest : List Oper} {o : Oper} {a : Act} {Q : Exit → Act → World → Prop}
    (hg : o.guard = none) (s x : Operand) (t : TypeId) (hop : o.op = Op.call { callee := Callee.builtin Builtin.append, args := #[s, x], argTypes := #[t, t] })
    (base : Nat) (e : TypeId) (i : TypeInfo) (z : Value) (size bytes : Nat) (h1 : P.underlying t = some (.slice e)) (h2 : P.info? e = some i) (h3 : i.zero = some z) (h4 : i.size = size) (h5 : i.bytes = bytes) (h6 : z.cells.size = size) (h7 : 0 < size)
    (v : Value) (k : Nat) (xs : List Value) (hs : a.eval s = v) (hown : w.ownsRow base e size v k xs) (ad : Addr) (m c : Nat) (news : List Value) (hx : a.eval x = .slice (some ad) m c) (hn : news.length = m * size)
    (hc : ∀ j u, news[j]? = some u → w.cell? (ad.add j) = some u) (h1c : ∀ u ∈ news, u.oneCell' = true) (b1 : k + m ≤ maxLen) (b2 : (k + m) * bytes ≤ 140737488355328) (b3 : base ≤ w.heap.size)
    (hK : ∀ v' w', w'.ownsRow base e size v' (k + m) (xs ++ news) → Same (fun k => v.ownBlock = some k) w w' → (∀ g, v'.ownBlock = some g → v.ownBlock = some g ∨ w.heap.size ≤ g) → wpList P ops Q rest (a.put o.dst v') w') :
    wpList P ops Q (o :: rest) a w := by
  refine wpList_plain hg fun K hK' => ?_
  obtain ⟨v', w', hrun, r1, r2, r3⟩ := run_append_same (P := P) w base t o.type e i z size bytes h1 h2 h3 h4 h5 h6 h7 v k xs hown ad m c news hn hc h1c b1 b2 b3
  unfold Oper.wp
  simp [execOp, hop, resolve, invoke, builtin, hs, hx, hrun, Result.andThen]
  exact hK' _ _ (hK v' w' r1 r2 r3)
theorem ownsRow_same {w w' : World} {base : Nat} {e : TypeId} {size : Nat} {v : Value} {n : Nat} {xs : List Value} {S : Nat → Prop} (h : w.ownsRow base e size v n xs) (hs : Same S w w') (hS : ∀ g, v.ownBlock = some g → ¬ S g) : w'.ownsRow base e size v n xs := by
  refine ⟨h.1, ?_⟩
  rcases h.2 with hn | ⟨g, cap, cur, rfl, hb, hg, rest⟩
  · exact .inl hn
  · exact .inr ⟨g, cap, cur, rfl, hb, hs.block hg (hS g rfl), rest⟩
theorem ownsRow_shape {w : World} {base : Nat} {e : TypeId} {size : Nat} {v : Value} {n : Nat} {xs : List Value} (h : w.ownsRow base e size v n xs) {g : Nat} (hg : v.ownBlock = some g) : base ≤ g ∧ g < w.heap.size ∧ ∃ k, w.shape? g = some (e, k) := by
  rcases h.2 with ⟨rfl, _⟩ | ⟨g', cap, cur, rfl, hb, hh, _⟩
  · simp [Value.ownBlock] at hg
  · simp only [Value.ownBlock, Option.some.injEq] at hg
    subst hg
    exact ⟨hb, (Array.getElem?_eq_some_iff.1 hh).1, cur.size, by unfold World.shape?; rw [hh]⟩

theorem cells_new {w : World} {c : Array Value} {t : TypeId} {n j : Nat} {u : Value} (hn : n = w.heap.size) (h : c.toList[j]? = some u) : (w.alloc (.cells c t)).cell? ((⟨n, 0, none⟩ : Addr).add j) = some u := by
  subst hn
  have e : (⟨w.heap.size, 0, none⟩ : Addr).add j = ⟨w.heap.size, j, none⟩ := by
    unfold Addr.add
    by_cases hj : j = 0
    · subst hj; rfl
    · simp [hj]
  rw [e, World.cell?_alloc_new]
  simpa using h
theorem own_row_succ {w : World} {base : Nat} {e : TypeId} {size : Nat} {v : Value} {n : Nat} {xs : List Value} (h : w.ownsRow base e size v (n + 1) xs) : ∃ g cap, v = .slice (some ⟨g, 0, none⟩) (n + 1) cap := by
  rcases h.2 with ⟨_, h⟩ | ⟨g, cap, cur, rfl, _⟩
  · omega
  · exact ⟨g, cap, rfl⟩

theorem ownsRow_base {w : World} {base base' : Nat} {e : TypeId} {size : Nat} {v : Value} {n : Nat} {xs : List Value} (h : w.ownsRow base e size v n xs) (hb : base' ≤ base) : w.ownsRow base' e size v n xs := by
  refine ⟨h.1, ?_⟩
  rcases h.2 with hn | ⟨g, cap, cur, rfl, hb', rest⟩
  · exact .inl hn
  · exact .inr ⟨g, cap, cur, rfl, Nat.le_trans hb hb', rest⟩

end Go.Proofs.Ytlbgnmcjdmdjpaa
namespace Go.Proofs.Ytlbgnmcjdmdjpaa
open Go.RowKit Go.ChangeShapes Go.WideShapes Go.Deep

/-- The plain type that stands at cell j of a type. -/
def leafAt (P : Program) : Nat → TypeId → Nat → Option TypeId
  | 0, _, _ => none
  | n + 1, t, j => match P.underlying t with
    | some (.struct fs) => match fs.toList.find? (fun f => decide (f.offset ≤ j ∧ j < f.offset + P.cellsOf f.type)) with
      | some f => leafAt P n f.type (j - f.offset)
      | none => none
    | some (.int _) => if j = 0 then some t else none
    | some .string => if j = 0 then some t else none
    | some .bool => if j = 0 then some t else none
    | _ => none

section
variable {H : Type} {enc : TypeId × Value → H} {P : Program} {w : World} {base : Nat} {spare : Nat → Bool} {held : Bool}
theorem leaf_sound : ∀ (n : Nat) (t j t' : Nat) (fuel : Nat) (cs : List Value) (x : DataW H × List MemPlace), leafAt P n t j = some t' → DataW.trod enc P w base spare held fuel t cs = some x →
    ∃ c m y, cs[j]? = some c ∧ DataW.trod enc P w base spare held m t' [c] = some y := by
  intro n
  induction n with
  | zero => intro t j t' fuel cs x h; cases h
  | succ n ih =>
    intro t j t' fuel cs x h hx
    unfold leafAt at h
    split at h
    · rename_i fs hu
      split at h
      · rename_i f hf
        have hm := List.mem_of_find?_eq_some hf
        have hp := List.find?_some hf
        simp only [decide_eq_true_eq] at hp
        obtain ⟨k, hk⟩ := List.getElem?_of_mem hm
        obtain ⟨xs, n', _, _, _, hlen, hg⟩ := DataW.trod_struct hu hx
        have hk' : fs[k]? = some f := by simpa using hk
        have hkl : k < xs.length := by
          have := (Array.getElem?_eq_some_iff.1 hk').1
          omega
        have h1 := hg k f hk'
        obtain ⟨c, m, y, hc, hy⟩ := ih _ _ _ _ _ _ h (h1.trans (List.getElem?_eq_getElem hkl))
        refine ⟨c, m, y, ?_, hy⟩
        rw [List.getElem?_take, if_pos (by omega), List.getElem?_drop] at hc
        rw [show f.offset + (j - f.offset) = j by omega] at hc
        exact hc
      · cases h
    · rename_i k hu
      split at h
      · rename_i hj
        cases h
        obtain ⟨n1, rfl, _⟩ := DataW.trod_int hu hx
        exact ⟨_, _, _, by rw [hj]; rfl, hx⟩
      · cases h
    · rename_i hu
      split at h
      · rename_i hj
        cases h
        obtain ⟨n1, rfl, _⟩ := DataW.trod_string hu hx
        exact ⟨_, _, _, by rw [hj]; rfl, hx⟩
      · cases h
    · rename_i hu
      split at h
      · rename_i hj
        cases h
        obtain ⟨n1, rfl, _⟩ := DataW.trod_bool hu hx
        exact ⟨_, _, _, by rw [hj]; rfl, hx⟩
      · cases h
    · cases h
/-- A leaf that is an int. -/
theorem leaf_int {k : IntKind} {n t j t' fuel : Nat} {cs : List Value} {x : DataW H × List MemPlace} (hl : leafAt P n t j = some t') (hu : P.underlying t' = some (.int k)) (hx : DataW.trod enc P w base spare held fuel t cs = some x) :
    ∃ i, cs[j]? = some (.int k i) ∧ (Lit.int k i).wf = true := by
  obtain ⟨c, m, y, hc, hy⟩ := leaf_sound n t j t' fuel cs x hl hx
  obtain ⟨i, hi, _, hw⟩ := DataW.trod_int hu hy
  simp only [List.cons.injEq, and_true] at hi
  exact ⟨i, by rw [hc, hi], hw⟩
theorem leaf_string {n t j t' fuel : Nat} {cs : List Value} {x : DataW H × List MemPlace} (hl : leafAt P n t j = some t') (hu : P.underlying t' = some .string) (hx : DataW.trod enc P w base spare held fuel t cs = some x) :
    ∃ s : ByteArray, cs[j]? = some (.string s) ∧ s.size ≤ maxLen := by
  obtain ⟨c, m, y, hc, hy⟩ := leaf_sound n t j t' fuel cs x hl hx
  obtain ⟨i, hi, _, hw⟩ := DataW.trod_string hu hy
  simp only [List.cons.injEq, and_true] at hi
  exact ⟨i, by rw [hc, hi], hw⟩
theorem leaf_bool {n t j t' fuel : Nat} {cs : List Value} {x : DataW H × List MemPlace} (hl : leafAt P n t j = some t') (hu : P.underlying t' = some .bool) (hx : DataW.trod enc P w base spare held fuel t cs = some x) :
    ∃ b : Bool, cs[j]? = some (.bool b) := by
  obtain ⟨c, m, y, hc, hy⟩ := leaf_sound n t j t' fuel cs x hl hx
  obtain ⟨i, hi, _⟩ := DataW.trod_bool hu hy
  simp only [List.cons.injEq, and_true] at hi
  exact ⟨i, by rw [hc, hi]⟩
/-- A slice argument: nil, or rows whose cells read as their leaves say. -/
theorem open_rows {t e fuel : Nat} {v : Value} {x : DataW H × List MemPlace} (ht : P.underlying t = some (.slice e)) (h : DataW.trod enc P w base spare held fuel t [v] = some x) :
    v = .slice none 0 0 ∨ ∃ (a : Addr) (len cap : Nat), v = .slice (some a) len cap ∧ len ≤ cap ∧ cap ≤ maxLen ∧
      ∀ i, i < len → ∃ (cs : List Value) (m : Nat) (y : DataW H × List MemPlace), (∀ j, j < P.cellsOf e → w.cell? (a.add (i * P.cellsOf e + j)) = cs[j]?) ∧ DataW.trod enc P w base spare held m e cs = some y := by
  rcases open_slice ht h with ⟨h0, _⟩ | ⟨a, len, cap, m, n, D, Pl, hcs, _, hl, hm, hmm, _, hi⟩
  · left; simpa using h0
  · right
    simp only [List.cons.injEq, and_true] at hcs
    refine ⟨a, len, cap, hcs, hl, hm, fun i hilt => ?_⟩
    obtain ⟨cs, hc, ht'⟩ := hi i (by rw [hmm]; split <;> omega)
    obtain ⟨_, hcl, hat⟩ := World.cells?_some hc
    refine ⟨cs, n, _, fun j hj => ?_, ht'⟩
    rw [← Go.Deep.add_add, hat j hj]
end

theorem arr5 {cs : Array Value} {a b c d e : Value} (h : cs.size = 5) (h0 : cs.toList[0]? = some a) (h1 : cs.toList[1]? = some b) (h2 : cs.toList[2]? = some c) (h3 : cs.toList[3]? = some d) (h4 : cs.toList[4]? = some e) : cs = #[a, b, c, d, e] := by
  obtain ⟨l⟩ := cs
  match l, h with
  | [x0, x1, x2, x3, x4], _ => simp_all
theorem arr2 {cs : Array Value} {a b : Value} (h : cs.size = 2) (h0 : cs.toList[0]? = some a) (h1 : cs.toList[1]? = some b) : cs = #[a, b] := by
  obtain ⟨l⟩ := cs
  match l, h with
  | [x0, x1], _ => simp_all

end Go.Proofs.Ytlbgnmcjdmdjpaa
/- A slice argument whose elements are of ints alone. -/
namespace Go.Proofs.Ytlbgnmcjdmdjpaa
open Go.RowKit Go.ChangeShapes Go.WideShapes Go.Deep

section
variable {P : Program} {H : Type} {enc : TypeId × Value → H} {w : World} {base : Nat} {spare : Nat → Bool} {held : Bool}
theorem rows_ints {t e t' n fuel nl : Nat} {v : Value} {x : DataW H × List MemPlace} (ht : P.underlying t = some (.slice e)) (hc : P.cellsOf e = nl) (hl0 : ((List.range nl).all fun j => decide (leafAt P n e j = some t')) = true) (hu : P.underlying t' = some (.int .i64))
    (h : DataW.trod enc P w base spare held fuel t [v] = some x) :
    ∃ (a : Option Addr) (len cap : Nat), v = .slice a len cap ∧ len ≤ maxLen ∧ (∀ x, a = some x → ∀ i, i < len → ∀ j, j < nl → ∃ K : Int, w.cell? (x.add (i * nl + j)) = some (.int .i64 K) ∧ (Lit.int .i64 K).wf = true) ∧ (a = none → len = 0) := by
  have hl : ∀ j, j < nl → leafAt P n e j = some t' := fun j hj => of_decide_eq_true (List.all_eq_true.1 hl0 j (List.mem_range.2 hj))
  rcases open_rows ht h with rfl | ⟨a, len, cap, rfl, h1, h2, h3⟩
  · exact ⟨none, 0, 0, rfl, Nat.zero_le _, by simp, fun _ => rfl⟩
  · refine ⟨some a, len, cap, rfl, by omega, ?_, by simp⟩
    rintro x rfl' i hi j hj
    cases rfl'
    obtain ⟨cs, m, y, h4, h5⟩ := h3 i hi
    obtain ⟨K, h6, h7⟩ := leaf_int (hl j hj) hu h5
    rw [hc] at h4
    exact ⟨K, (h4 j hj).trans h6, h7⟩
end
end Go.Proofs.Ytlbgnmcjdmdjpaa
/- Package frames: memory told as counts and bytes; the walks of within, isUsed, used. -/
namespace Go.Proofs.Ytlbgnmcjdmdjpaa
open Go.RowKit Go.Shelf
attribute [local go_sem] Oper.semAt_some

/-- Memory: how many frames, each one's count, its bytes. -/
structure Mm where
  n : Nat
  R : Nat → Int
  B : Nat → Nat → UInt8

structure MemAt (w : World) (f fb : Nat) (M : Mm) : Prop where
  f0 : w.cell? ⟨f, 0, none⟩ = some (.slice (some ⟨fb, 0, none⟩) M.n M.n)
  rc : ∀ i, i < M.n → w.cell? ⟨fb, i * 65, none⟩ = some (.int .i64 (M.R i))
  bc : ∀ i, i < M.n → ∀ k, k < 64 → w.cell? ⟨fb, i * 65 + 1 + k, none⟩ = some (.int .u8 ((M.B i k).toNat : Int))
  fz : ∀ o, w.frozen? ⟨fb, o, none⟩ = false
  sh : ∃ n, w.shape? fb = some (135, n)
  sf : ∃ n, w.shape? f = some (102, n)
  rR : ∀ i, i < M.n → 0 ≤ M.R i ∧ M.R i ≤ 1000
  ne : f ≠ fb
  n1 : 1 ≤ M.n
  n2 : M.n ≤ 256

theorem MemAt.lt {w : World} {f fb : Nat} {M : Mm} (h : MemAt w f fb M) : f < w.heap.size ∧ fb < w.heap.size :=
  ⟨World.block_lt_of_cell? _ _ h.f0, World.block_lt_of_cell? _ _ (h.rc 0 h.n1)⟩
theorem MemAt.same {w w' : World} {f fb : Nat} {M : Mm} {S : Nat → Prop} (h : MemAt w f fb M) (hs : Same S w w') (hf : ¬ S f) (hb : ¬ S fb) : MemAt w' f fb M := by
  obtain ⟨n, hn⟩ := h.sh
  obtain ⟨n', hn'⟩ := h.sf
  exact ⟨hs.cell h.f0 hf, fun i hi => hs.cell (h.rc i hi) hb, fun i hi k hk => hs.cell (h.bc i hi k hk) hb, fun o => (hs.frozen (a := ⟨fb, o, none⟩) h.lt.2 hb).trans (h.fz o),
    ⟨n, (hs.shp _ h.lt.2).trans hn⟩, ⟨n', (hs.shp _ h.lt.1).trans hn'⟩, h.rR, h.ne, h.n1, h.n2⟩
theorem MemAt.same0 {w w' : World} {f fb : Nat} {M : Mm} (h : MemAt w f fb M) (hs : Same (fun _ => False) w w') : MemAt w' f fb M := h.same hs (fun h => h) (fun h => h)

set_option maxHeartbeats 400000 in
theorem within1 (w : World) (b : Nat) (most n : Int) (hc : w.cell? ⟨b, 0, none⟩ = some (.int .i64 n)) :
    Calls Try.prog 73 #[.int .i64 most, .slice (some ⟨b, 0, none⟩) 1 1] w fun e w' => e = .returned (.bool (decide (0 ≤ n ∧ n ≤ most))) ∧ w = w' := by
  by_cases h : n < 0 ∨ most < n
  · have hb : (decide (n < 0) || decide (most < n)) = true := by simpa using h
    go_enter Try.func73, Try.ntmps73
    go_wp2
    refine wp_loop_rounds 1 ?_
    rw [rounds_succ]
    go_wp2
    all_goals
      go_ret
      exact ⟨by simp; omega, rfl⟩
  · have hb : (decide (n < 0) || decide (most < n)) = false := by simp; omega
    go_enter Try.func73, Try.ntmps73
    go_wp2
    refine wp_loop_rounds 2 ?_
    rw [rounds_succ]
    go_wp2
    rw [rounds_succ]
    go_wp2
    go_ret
    exact ⟨by simp; omega, rfl⟩
set_option maxHeartbeats 400000 in
theorem within2 (w : World) (b : Nat) (most n k : Int) (hc : w.cell? ⟨b, 0, none⟩ = some (.int .i64 n)) (hc2 : w.cell? ⟨b, 1, none⟩ = some (.int .i64 k)) :
    Calls Try.prog 73 #[.int .i64 most, .slice (some ⟨b, 0, none⟩) 2 2] w fun e w' => e = .returned (.bool (decide (0 ≤ n ∧ n ≤ most ∧ 0 ≤ k ∧ k ≤ most))) ∧ w = w' := by
  by_cases h : n < 0 ∨ most < n
  · have hb : (decide (n < 0) || decide (most < n)) = true := by simpa using h
    go_enter Try.func73, Try.ntmps73
    go_wp2
    refine wp_loop_rounds 1 ?_
    rw [rounds_succ]
    go_wp2
    all_goals
      go_ret
      exact ⟨by simp; omega, rfl⟩
  · have hb : (decide (n < 0) || decide (most < n)) = false := by simp; omega
    by_cases h2 : k < 0 ∨ most < k
    · have hb2 : (decide (k < 0) || decide (most < k)) = true := by simpa using h2
      go_enter Try.func73, Try.ntmps73
      go_wp2
      refine wp_loop_rounds 2 ?_
      rw [rounds_succ]
      go_wp2
      rw [rounds_succ]
      go_wp2
      all_goals
        go_ret
        exact ⟨by simp; omega, rfl⟩
    · have hb2 : (decide (k < 0) || decide (most < k)) = false := by simp; omega
      go_enter Try.func73, Try.ntmps73
      go_wp2
      refine wp_loop_rounds 3 ?_
      rw [rounds_succ]
      go_wp2
      rw [rounds_succ]
      go_wp2
      rw [rounds_succ]
      go_wp2
      go_ret
      exact ⟨by simp; omega, rfl⟩
theorem isUsed_any (w : World) (b o : Nat) (v : Int) (hc : w.cell? ⟨b, o, none⟩ = some (.int .i64 v)) :
    Calls Try.prog 103 #[.pointer (some ⟨b, o, none⟩)] w fun e w' => e = .returned (.bool (decide (0 < v))) ∧ w = w' := by
  go_enter Try.func103, Try.ntmps103
  go_wp2
  go_ret
  exact ⟨rfl, rfl⟩

/-- Is a number that of a frame in use? -/
def Mm.isUsed (M : Mm) (a : Int) : Bool := decide (0 ≤ a ∧ a < M.n ∧ 0 < M.R a.toNat)

theorem used_nil (w : World) (a : Int) : Calls Try.prog 72 #[.pointer none, .int .i64 a] w fun e w' => e = .returned (.tuple #[.pointer none, .int .i64 1]) ∧ w = w' := by
  go_enter Try.func72, Try.ntmps72
  go_wp2
  go_ret2
  exact ⟨rfl, rfl⟩
set_option maxHeartbeats 800000 in
theorem used_bad {w : World} {f fb : Nat} {M : Mm} (h : MemAt w f fb M) (a : Int) (ha : M.isUsed a = false) :
    Calls Try.prog 72 #[.pointer (some ⟨f, 0, none⟩), .int .i64 a] w fun e w' => e = .returned (.tuple #[.pointer none, .int .i64 10]) ∧ Same (fun _ => False) w w' := by
  have h1 := h.n1
  have h2 := h.n2
  have hf0 := h.f0
  have hlf := h.lt.1
  have hlb := h.lt.2
  have ha' : ¬ (0 ≤ a ∧ a < M.n ∧ 0 < M.R a.toNat) := of_decide_eq_false ha
  have H := Lib.hid h
  clear h ha
  by_cases hin : 0 ≤ a ∧ a ≤ (M.n : Int) - 1
  · obtain ⟨k, rfl⟩ := Int.eq_ofNat_of_zero_le hin.1
    have hk : k < M.n := by omega
    have hki : (k : Int) < M.n := by omega
    have hc := H.out.rc k hk
    have hz : decide (0 < M.R k) = false := by
      rw [Int.toNat_natCast] at ha'
      simp; omega
    have hd : decide (0 ≤ (k : Int) ∧ (k : Int) ≤ (M.n : Int) - 1) = true := by simpa using hin
    clear ha' hin
    go_enter Try.func72, Try.ntmps72
    go_wp2_with fail
    refine (within1 _ _ _ (k : Int) (by simp)).mono ?_
    rintro e w' ⟨rfl, rfl⟩
    rw [hd]
    have hc' := (same_alloc (.cells #[.int .i64 k] 3)).cell hc (by simp)
    go_wp2_with fail
    refine (isUsed_any _ _ _ _ hc').mono ?_
    rintro e w' ⟨rfl, rfl⟩
    rw [hz]
    go_wp2
    go_ret2
    exact ⟨rfl, same_alloc _⟩
  · have hd : decide (0 ≤ a ∧ a ≤ (M.n : Int) - 1) = false := decide_eq_false hin
    clear hin ha'
    go_enter Try.func72, Try.ntmps72
    go_wp2_with fail
    refine (within1 _ _ _ a (by simp)).mono ?_
    rintro e w' ⟨rfl, rfl⟩
    rw [hd]
    go_wp2
    go_ret2
    exact ⟨rfl, same_alloc _⟩
set_option maxHeartbeats 800000 in
theorem used_ok {w : World} {f fb : Nat} {M : Mm} (h : MemAt w f fb M) (k : Nat) (hk : k < M.n) (hz0 : 0 < M.R k) :
    Calls Try.prog 72 #[.pointer (some ⟨f, 0, none⟩), .int .i64 k] w fun e w' => e = .returned (.tuple #[.pointer (some ⟨fb, k * 65, none⟩), .int .i64 0]) ∧ Same (fun _ => False) w w' := by
  have h1 := h.n1
  have h2 := h.n2
  have hf0 := h.f0
  have hlf := h.lt.1
  have hlb := h.lt.2
  have H := Lib.hid h
  clear h
  have hki : (k : Int) < M.n := by omega
  have hc := H.out.rc k hk
  have hz : decide (0 < M.R k) = true := by simpa using hz0
  have hd : decide (0 ≤ (k : Int) ∧ (k : Int) ≤ (M.n : Int) - 1) = true := by simp; omega
  clear hz0
  go_enter Try.func72, Try.ntmps72
  go_wp2_with fail
  refine (within1 _ _ _ (k : Int) (by simp)).mono ?_
  rintro e w' ⟨rfl, rfl⟩
  rw [hd]
  have hc' := (same_alloc (.cells #[.int .i64 k] 3)).cell hc (by simp)
  go_wp2_with fail
  refine (isUsed_any _ _ _ _ hc').mono ?_
  rintro e w' ⟨rfl, rfl⟩
  rw [hz]
  go_wp2
  go_ret2
  exact ⟨rfl, same_alloc _⟩
end Go.Proofs.Ytlbgnmcjdmdjpaa
namespace Go.Proofs.Ytlbgnmcjdmdjpaa
open Go.RowKit Go.Shelf
attribute [local go_sem] Oper.semAt_some

def Mm.refs (M : Mm) (a : Int) : Int := if M.isUsed a then M.R a.toNat else 0
theorem Mm.used_iff {M : Mm} {a : Int} (h : M.isUsed a = true) : ∃ k : Nat, a = k ∧ k < M.n ∧ 0 < M.R k := by
  have := of_decide_eq_true h
  obtain ⟨k, rfl⟩ := Int.eq_ofNat_of_zero_le this.1
  exact ⟨k, rfl, by omega, by simpa using this.2.2⟩

theorem refs_nil (w : World) (a : Int) : Calls Try.prog 57 #[.pointer none, .int .i64 a] w fun e w' => e = .returned (.int .i64 0) ∧ w = w' := by
  go_enter Try.func57, Try.ntmps57
  go_wp2_with fail
  refine (used_nil _ _).mono ?_
  rintro e w' ⟨rfl, rfl⟩
  go_wp2
  go_ret
  exact ⟨rfl, rfl⟩
theorem refs_any {w : World} {f fb : Nat} {M : Mm} (h : MemAt w f fb M) (a : Int) :
    Calls Try.prog 57 #[.pointer (some ⟨f, 0, none⟩), .int .i64 a] w fun e w' => e = .returned (.int .i64 (M.refs a)) ∧ Same (fun _ => False) w w' := by
  cases hu : M.isUsed a with
  | false =>
    go_enter Try.func57, Try.ntmps57
    go_wp2_with fail
    refine (used_bad h a hu).mono ?_
    rintro e w' ⟨rfl, hs⟩
    go_wp2
    go_ret
    exact ⟨by simp [Mm.refs, hu], hs⟩
  | true =>
    obtain ⟨k, rfl, hk, hR⟩ := Mm.used_iff hu
    go_enter Try.func57, Try.ntmps57
    go_wp2_with fail
    refine (used_ok h k hk hR).mono ?_
    rintro e w' ⟨rfl, hs⟩
    have hc := (h.same0 hs).rc k hk
    go_wp2
    go_ret
    exact ⟨by simp [Mm.refs, hu], hs⟩

/-- Another count at a frame. -/
def Mm.setR (M : Mm) (k : Nat) (v : Int) : Mm := { M with R := fun i => if i = k then v else M.R i }
theorem MemAt.setR {w : World} {f fb : Nat} {M : Mm} (h : MemAt w f fb M) {k : Nat} (hk : k < M.n) {v : Int} (hv : 0 ≤ v ∧ v ≤ 1000) : MemAt (w.setCell ⟨fb, k * 65, none⟩ (.int .i64 v)) f fb (M.setR k v) := by
  have hne := h.ne
  refine ⟨?_, fun i hi => ?_, fun i hi j hj => ?_, fun o => ?_, ?_, ?_, fun i hi => ?_, h.ne, h.n1, h.n2⟩
  · rw [World.cell?_setCell_other _ _ _ _ (by simp <;> omega)]; exact h.f0
  · by_cases e : i = k
    · subst e; simp only [Mm.setR, if_true]; exact World.cell?_setCell_same _ _ _ (h.rc i hi)
    · rw [World.cell?_setCell_other _ _ _ _ (by simp <;> omega)]; simp only [Mm.setR, if_neg e]; exact h.rc i hi
  · rw [World.cell?_setCell_other _ _ _ _ (by simp <;> omega)]; exact h.bc i hi j hj
  · rw [World.frozen?_setCell]; exact h.fz o
  · simp only [shape_setCell]; exact h.sh
  · simp only [shape_setCell]; exact h.sf
  · simp only [Mm.setR]; split
    · exact hv
    · exact h.rR i hi

theorem free_nil (w : World) (a : Int) : Calls Try.prog 66 #[.pointer none, .int .i64 a] w fun e w' => e = .returned (.int .i64 1) ∧ w = w' := by
  go_enter Try.func66, Try.ntmps66
  go_wp2_with fail
  refine (used_nil _ _).mono ?_
  rintro e w' ⟨rfl, rfl⟩
  go_wp2
  go_ret
  exact ⟨rfl, rfl⟩
def Mm.free (M : Mm) (a : Int) : Mm := if M.isUsed a then M.setR a.toNat (M.R a.toNat - 1) else M
theorem free_any {w : World} {f fb : Nat} {M : Mm} (hM : MemAt w f fb M) (a : Int) :
    Calls Try.prog 66 #[.pointer (some ⟨f, 0, none⟩), .int .i64 a] w fun e w' => e = .returned (.int .i64 (if M.isUsed a then 0 else 10)) ∧ MemAt w' f fb (M.free a) ∧ Same (· = fb) w w' := by
  cases hu : M.isUsed a with
  | false =>
    go_enter Try.func66, Try.ntmps66
    go_wp2_with fail
    refine (used_bad hM a hu).mono ?_
    rintro e w' ⟨rfl, hs⟩
    go_wp2
    go_ret
    exact ⟨by simp, by simp only [Mm.free, hu, Bool.false_eq_true, if_false]; exact hM.same0 hs, hs.mono (fun _ _ h => h.elim)⟩
  | true =>
    obtain ⟨k, rfl, hk, hR⟩ := Mm.used_iff hu
    go_enter Try.func66, Try.ntmps66
    go_wp2_with fail
    refine (used_ok hM k hk hR).mono ?_
    rintro e w' ⟨rfl, hs⟩
    have h' := hM.same0 hs
    have hc := h'.rc k hk
    have hz := h'.fz (k * 65)
    have hr := hM.rR k hk
    have h2 := h'.setR hk (v := M.R k - 1) (by omega)
    have hs2 : Same (· = fb) w (w'.setCell ⟨fb, k * 65, none⟩ (.int .i64 (M.R k - 1))) := (hs.mono (fun _ _ h => h.elim)).setCell _ (.inr rfl)
    go_wp2
    go_ret
    exact ⟨by simp, by simp only [Mm.free, hu, Int.toNat_natCast, if_true]; exact h2, hs2⟩

/-- So many bytes of a frame. -/
def Mm.bytes (M : Mm) (k from_ len : Nat) : List UInt8 := (List.range len).map fun j => M.B k (from_ + j)
def Mm.str (M : Mm) (k from_ len : Nat) : ByteArray := ⟨(M.bytes k from_ len).toArray⟩

theorem read_nil (w : World) (a s l : Int) : Calls Try.prog 35 #[.pointer none, .int .i64 a, .int .i64 s, .int .i64 l] w fun e w' => e = .returned (.tuple #[.string ByteArray.empty, .int .i64 1]) ∧ w = w' := by
  go_enter Try.func35, Try.ntmps35
  go_wp2_with fail
  refine (used_nil _ _).mono ?_
  rintro e w' ⟨rfl, rfl⟩
  go_wp2
  go_ret2
  exact ⟨rfl, rfl⟩
theorem read_bad {w : World} {f fb : Nat} {M : Mm} (h : MemAt w f fb M) (a s l : Int) (hu : M.isUsed a = false) :
    Calls Try.prog 35 #[.pointer (some ⟨f, 0, none⟩), .int .i64 a, .int .i64 s, .int .i64 l] w fun e w' => e = .returned (.tuple #[.string ByteArray.empty, .int .i64 10]) ∧ Same (fun _ => False) w w' := by
  go_enter Try.func35, Try.ntmps35
  go_wp2_with fail
  refine (used_bad h a hu).mono ?_
  rintro e w' ⟨rfl, hs⟩
  go_wp2
  go_ret2
  exact ⟨rfl, hs⟩
theorem slice_lh (w : World) (fb o s l : Nat) (hs : s < 64) (hl : s + l ≤ 64) :
    (Instr.sliceAt 133 (.pointer (some ⟨fb, o, none⟩)) (some (.int .i64 s)) (some (.int .i64 (s + l))) none).run Try.prog w = .ok (.slice (some ⟨fb, o + s, none⟩) l (64 - s)) w := by
  have ht : Try.prog.underlying 133 = some (.array (Try.prog.arrayLen 133) (Try.prog.elem 133)) := by kernel_rfl
  have hn : Try.prog.arrayLen 133 = 64 := by kernel_rfl
  have hz : (sizeOf (Try.prog.elem 133)).run Try.prog w = .ok 1 w := by
    have : (Try.prog.info? (Try.prog.elem 133)).map (·.size) = some 1 := by kernel_rfl
    simp [go_sem, this]
  rw [run_sliceAt_array_lh w 133 ⟨fb, o, none⟩ ht .i64 .i64 s (s + l) (by omega) (by omega) (by rw [hn]; omega), hz]
  have e : ((s : Int) + l).toNat - s = l := by omega
  have e2 : (⟨fb, o, none⟩ : Addr).add s = ⟨fb, o + s, none⟩ := by unfold Addr.add; split <;> simp_all
  simp [slicedAt, Result.andThen, hn, e, e2, show ¬ 64 = s by omega]
theorem slice_l (w : World) (fb o s : Nat) (hs : s < 64) :
    (Instr.sliceAt 133 (.pointer (some ⟨fb, o, none⟩)) (some (.int .i64 s)) none none).run Try.prog w = .ok (.slice (some ⟨fb, o + s, none⟩) (64 - s) (64 - s)) w := by
  have ht : Try.prog.underlying 133 = some (.array (Try.prog.arrayLen 133) (Try.prog.elem 133)) := by kernel_rfl
  have hn : Try.prog.arrayLen 133 = 64 := by kernel_rfl
  have hz : (sizeOf (Try.prog.elem 133)).run Try.prog w = .ok 1 w := by
    have : (Try.prog.info? (Try.prog.elem 133)).map (·.size) = some 1 := by kernel_rfl
    simp [go_sem, this]
  rw [run_sliceAt_array_l w 133 ⟨fb, o, none⟩ ht .i64 s (by omega) (by rw [hn]; omega), hz]
  have e2 : (⟨fb, o, none⟩ : Addr).add s = ⟨fb, o + s, none⟩ := by unfold Addr.add; split <;> simp_all
  simp [slicedAt, Result.andThen, hn, e2, show ¬ 64 = s by omega]

set_option maxHeartbeats 1600000 in
set_option maxRecDepth 8192 in
theorem read_ok {w : World} {f fb : Nat} {M : Mm} (h : MemAt w f fb M) (k s l : Nat) (hk : k < M.n) (hR : 0 < M.R k) (hs64 : s < 64) (hl : s + l ≤ 64) :
    Calls Try.prog 35 #[.pointer (some ⟨f, 0, none⟩), .int .i64 k, .int .i64 s, .int .i64 l] w fun e w' => e = .returned (.tuple #[.string (M.str k s l), .int .i64 0]) ∧ Same (fun _ => False) w w' := by
  have hn2 := h.n2
  have hd : decide (0 ≤ (s : Int) ∧ (s : Int) ≤ 64 ∧ 0 ≤ (l : Int) ∧ (l : Int) ≤ 64) = true := by simp; omega
  go_enter Try.func35, Try.ntmps35
  go_wp2_with fail
  refine (used_ok h k hk hR).mono ?_
  rintro e w1 ⟨rfl, hs⟩
  go_wp2_with fail
  refine (within2 _ _ _ (s : Int) (l : Int) (by simp) (by simp)).mono ?_
  rintro e w2 ⟨rfl, hw⟩
  rw [hd]
  have hs2 : Same (fun _ => False) w w2 := by rw [← hw]; exact hs.trans (same_alloc _)
  have h' := h.same0 hs2
  have hlb := h'.lt.2
  have hcv := run_convert_bytes_back (P := Try.prog) w2 66 9 5 ⟨fb, k * 65 + 1 + s, none⟩ (64 - s) (M.bytes k s l) Try.underlying66 Try.underlying5 Try.underlying9 (by
    intro j hj
    have hj' : j < l := by simpa [Mm.bytes] using hj
    have hplain : (⟨fb, k * 65 + 1 + s, none⟩ : Addr).add j = ⟨fb, k * 65 + 1 + (s + j), none⟩ := by unfold Addr.add; split <;> simp_all [Nat.add_assoc]
    rw [hplain, h'.bc k hk (s + j) (by omega)]
    simp [Mm.bytes])
  have hbl : (M.bytes k s l).length = l := by simp [Mm.bytes]
  rw [hbl] at hcv
  have hsl := slice_lh w2 fb (k * 65 + 1) s l hs64 hl
  clear hw
  go_wp2
  go_ret2
  exact ⟨rfl, hs2⟩

/-- Bytes written to a frame. -/
def Mm.wr (M : Mm) (k from_ : Nat) (s : ByteArray) : Mm := { M with B := fun i o => if i = k ∧ from_ ≤ o ∧ o < from_ + s.size then (s.data.toList[o - from_]?).getD 0 else M.B i o }
theorem MemAt.wr {w : World} {f fb : Nat} {M : Mm} (h : MemAt w f fb M) {k from_ : Nat} (hk : k < M.n) (s : ByteArray) (hl : from_ + s.size ≤ 64) :
    MemAt (w.setCells fb (k * 65 + 1 + from_) (s.data.toList.map fun x => Value.int .u8 (x.toNat : Int))) f fb (M.wr k from_ s) ∧ Same (· = fb) w (w.setCells fb (k * 65 + 1 + from_) (s.data.toList.map fun x => Value.int .u8 (x.toNat : Int))) := by
  have hne := h.ne
  have hlen : (s.data.toList.map fun x => Value.int .u8 (x.toNat : Int)).length = s.size := by rw [List.length_map, ← Lib.size_eq]
  have hsame : ∀ (vs : List Value) (o : Nat) (W : World), Same (· = fb) W (W.setCells fb o vs) := by
    intro vs
    induction vs with
    | nil => intro o W; exact Same.refl _ _
    | cons v r ih => intro o W; exact ((Same.refl (· = fb) W).setCell (a := ⟨fb, o, none⟩) v (.inr rfl)).trans (ih (o + 1) _)
  have hs := hsame (s.data.toList.map fun x => Value.int .u8 (x.toNat : Int)) (k * 65 + 1 + from_) w
  obtain ⟨n, hn⟩ := h.sh
  obtain ⟨n', hn'⟩ := h.sf
  refine ⟨⟨?_, fun i hi => ?_, fun i hi j hj => ?_, fun o => ?_, ⟨n, (hs.shp _ h.lt.2).trans hn⟩, ⟨n', (hs.shp _ h.lt.1).trans hn'⟩, h.rR, h.ne, h.n1, h.n2⟩, hs⟩
  · exact hs.cell h.f0 (by simp only; omega)
  · rw [World.cell?_setCells_out _ _ _ _ _ (fun _ _ => by rw [hlen]; simp only; omega)]; exact h.rc i hi
  · by_cases hin : i = k ∧ from_ ≤ j ∧ j < from_ + s.size
    · obtain ⟨rfl, h1, h2⟩ := hin
      have := World.cell?_setCells_in fb (s.data.toList.map fun x => Value.int .u8 (x.toNat : Int)) (i * 65 + 1 + from_) w (fun q hq => by
        rw [hlen] at hq
        have := h.bc i hi (from_ + q) (by omega)
        rw [show i * 65 + 1 + from_ + q = i * 65 + 1 + (from_ + q) by omega, this]; rfl) (j - from_) (by rw [hlen]; omega)
      rw [show i * 65 + 1 + from_ + (j - from_) = i * 65 + 1 + j by omega] at this
      rw [this]
      have hl2 : j - from_ < s.data.toList.length := by have := Lib.size_eq s; omega
      have hl3 : j - from_ < s.data.size := by simpa using hl2
      simp [Mm.wr, h1, h2, Array.getElem?_eq_getElem hl3]
    · rw [World.cell?_setCells_out _ _ _ _ _ (fun _ _ => by rw [hlen]; simp only; omega)]
      simp only [Mm.wr, if_neg hin]; exact h.bc i hi j hj
  · rw [World.frozen?_setCells]; exact h.fz o

theorem write_bad {w : World} {f fb : Nat} {M : Mm} (h : MemAt w f fb M) (a q : Int) (s : ByteArray) (hu : M.isUsed a = false) :
    Calls Try.prog 80 #[.pointer (some ⟨f, 0, none⟩), .int .i64 a, .int .i64 q, .string s] w fun e w' => e = .returned (.int .i64 10) ∧ Same (fun _ => False) w w' := by
  go_enter Try.func80, Try.ntmps80
  go_wp2_with fail
  refine (used_bad h a hu).mono ?_
  rintro e w' ⟨rfl, hs⟩
  go_wp2
  go_ret
  exact ⟨rfl, hs⟩
set_option maxHeartbeats 1600000 in
set_option maxRecDepth 8192 in
theorem write_ok {w : World} {f fb : Nat} {M : Mm} (h : MemAt w f fb M) (k q : Nat) (s : ByteArray) (hk : k < M.n) (hR : 0 < M.R k) (hs64 : q < 64) (hl : q + s.size ≤ 64) :
    Calls Try.prog 80 #[.pointer (some ⟨f, 0, none⟩), .int .i64 k, .int .i64 q, .string s] w fun e w' => e = .returned (.int .i64 0) ∧ MemAt w' f fb (M.wr k q s) ∧ Same (· = fb) w w' := by
  have hn2 := h.n2
  have hd : decide (0 ≤ (q : Int) ∧ (q : Int) ≤ 64 ∧ 0 ≤ (s.size : Int) ∧ (s.size : Int) ≤ 64) = true := by simp; omega
  go_enter Try.func80, Try.ntmps80
  go_wp2_with fail
  refine (used_ok h k hk hR).mono ?_
  rintro e w1 ⟨rfl, hs⟩
  go_wp2_with fail
  refine (within2 _ _ _ (q : Int) (s.size : Int) (by simp) (by simp)).mono ?_
  rintro e w2 ⟨rfl, hw⟩
  rw [hd]
  have hs2 : Same (fun _ => False) w w2 := by rw [← hw]; exact hs.trans (same_alloc _)
  have h' := h.same0 hs2
  have hlb := h'.lt.2
  have hcp := fun ty => run_copy_string (P := Try.prog) w2 66 9 ty 5 fb (k * 65 + 1 + q) (64 - q) (64 - q) s Try.underlying66 (fun w => by
      have : (Try.prog.info? 5).map (·.size) = some 1 := by kernel_rfl
      simp [go_sem, this]) (by omega) (fun j hj => by
        have := h'.bc k hk (q + j) (by omega)
        rw [show k * 65 + 1 + q + j = k * 65 + 1 + (q + j) by omega, this]; rfl) (fun j _ => h'.fz _)
  obtain ⟨h3, hs3⟩ := h'.wr hk s hl
  have hsl := slice_l w2 fb (k * 65 + 1) q hs64
  clear hw
  go_wp2
  go_ret
  exact ⟨rfl, h3, (hs2.mono (fun _ _ h => h.elim)).trans hs3⟩

theorem share_nil (w : World) (a : Int) : Calls Try.prog 115 #[.pointer none, .int .i64 a] w fun e w' => e = .returned (.int .i64 1) ∧ w = w' := by
  go_enter Try.func115, Try.ntmps115
  go_wp2_with fail
  refine (used_nil _ _).mono ?_
  rintro e w' ⟨rfl, rfl⟩
  go_wp2
  go_ret
  exact ⟨rfl, rfl⟩

/-- The iterator over the frames that nobody has: J holds between rounds. -/
theorem unused1 (l bx f fb n : Nat) (R : Nat → Int) (J : Nat → World → Prop) (Jx : World → Prop) (hn : 1 ≤ n ∧ n ≤ 256)
    (hc : ∀ i W, i < n → J i W → W.cell? ⟨fb, i * 65, none⟩ = some (.int .i64 (R i)) ∧ W.cell? ⟨f, 0, none⟩ = some (.slice (some ⟨fb, 0, none⟩) n n) ∧ W.cell? ⟨bx, 0, none⟩ = some (.pointer (some ⟨f, 0, none⟩)))
    (hno : ∀ i W, i < n → J i W → 0 < R i → J (i + 1) W)
    (hy : ∀ i W, i < n → J i W → R i ≤ 0 → YieldAt Fence.wide 0 Try.prog l #[.int .i64 i] W fun e W' =>
      (e = .returned (.bool true) ∧ J (i + 1) W') ∨ (e = .returned (.bool false) ∧ Jx W'))
    (w : World) (h0 : J 0 w) :
    Calls Try.prog 102 #[.func (.yield l) #[] #[], .pointer (some ⟨bx, 0, none⟩)] w fun e W => (∃ v, e = .returned v) ∧ (J n W ∨ Jx W) := by
  obtain ⟨hn1, hn2⟩ := hn
  obtain ⟨c00, c01, c02⟩ := hc 0 w (by omega) h0
  refine (callsIn_wide (n := 0)).1 ?_
  refine callsIn_of_wp Try.func102 rfl trivial ?_ rfl
  simp only [Try.ntmps102, List.size_toArray, List.length_cons, List.length_nil, Nat.reduceAdd, Nat.reduceSub, Array.replicate_succ, Array.replicate_zero, List.push_toArray, List.append_toArray, List.nil_append, List.cons_append]
  gi_wp2
  refine wpIn_scope_straight ?_
  gi_wp2
  refine wpIn_label ?_
  gi_wp2
  gi_loopw [9] (fun p wr => ∃ k : Nat, k ≤ n ∧ p = .int .i64 k ∧ J k wr) (fun p _ => n - (intOf p).toNat)
  case atStart => exact ⟨0, by omega, rfl, h0⟩
  case round =>
    obtain ⟨k, hk, rfl, hJ⟩ := hrel
    clear c00 c01 c02
    by_cases hlt : k < n
    · obtain ⟨c0, c1, c2⟩ := hc k wr hlt hJ
      have hlti : (k : Int) < n := by omega
      by_cases hz : 0 < R k
      · have hJ' := hno k wr hlt hJ hz
        have hzb : decide (0 < R k) = true := by simpa using hz
        clear hz
        gi_wp2_with (gi_at_call 103; refine CallsIn.mono (callsIn_wide.2 (isUsed_any _ _ _ _ c0)) ?_; rintro e w' ⟨rfl, rfl⟩)
        go_roundw
        case rel => exact ⟨k + 1, by omega, by go_num, hJ'⟩
        case measure => simp [intOf]; omega
      · have hzb : decide (0 < R k) = false := by simpa using hz
        have hz := Int.not_lt.1 hz
        have HZ := Lib.hid hz
        clear hz
        obtain ⟨fn, tmps, assign, body, hye, hR⟩ := hy k wr hlt hJ HZ.out
        gi_wp2_with (gi_at_call 103; refine CallsIn.mono (callsIn_wide.2 (isUsed_any _ _ _ _ c0)) ?_; rintro e w' ⟨rfl, rfl⟩)
        refine hR.mono ?_
        rintro e W3 (⟨rfl, hJ3⟩ | ⟨rfl, hJx3⟩)
        · gi_wp2
          go_roundw
          case rel => exact ⟨k + 1, by omega, by go_num, hJ3⟩
          case measure => simp [intOf]; omega
        · gi_wp2
          simp only [Exit.noGoto]
          exact bodyPost_ret (results_none rfl _ _ _) rfl ⟨⟨_, rfl⟩, .inr hJx3⟩
    · obtain rfl : k = n := by omega
      gi_wp2
      simp only [Exit.noGoto]
      exact bodyPost_end (results_none rfl _ _ _) rfl ⟨⟨_, rfl⟩, .inl hJ⟩
end Go.Proofs.Ytlbgnmcjdmdjpaa
namespace Go.Proofs.Ytlbgnmcjdmdjpaa
open Go.RowKit Go.Shelf
attribute [local go_sem] Oper.semAt_some

theorem unused_any (w : World) (p : Option Addr) :
    Calls Try.prog 60 #[.pointer p] w fun e w' => e = .returned (.func (.func 102) #[] #[.pointer (some ⟨w.heap.size, 0, none⟩)]) ∧ w' = w.alloc (.cells #[.pointer p] 24) := by
  go_enter Try.func60, Try.ntmps60
  go_wp2
  go_ret
  exact ⟨rfl, rfl⟩

/-- The frames below i that nobody has: how many. -/
def nfree (R : Nat → Int) : Nat → Nat
  | 0 => 0
  | i + 1 => nfree R i + if 0 < R i then 0 else 1
theorem nfree_le (R : Nat → Int) (i : Nat) : nfree R i ≤ i := by
  induction i with
  | zero => exact Nat.le_refl _
  | succ i ih => simp only [nfree]; split <;> omega

set_option maxHeartbeats 800000 in
theorem left_any {w : World} {f fb : Nat} {M : Mm} (h : MemAt w f fb M) :
    Calls Try.prog 23 #[.pointer (some ⟨f, 0, none⟩)] w fun e w' => e = .returned (.int .i64 (nfree M.R M.n)) ∧ Same (fun _ => False) w w' := by
  have hn2 := h.n2
  have hlt := h.lt
  have H := Lib.hid h
  clear h
  refine (callsIn_wide (n := 0)).1 ?_
  refine callsIn_of_wp_marks Try.func23 rfl trivial ?_ rfl
  simp only [Try.ntmps23, List.size_toArray, List.length_cons, List.length_nil, Nat.reduceAdd, Nat.reduceSub, Array.replicate_succ, Array.replicate_zero, List.push_toArray, List.append_toArray, List.nil_append, List.cons_append]
  gi_wp2_with (gi_at_call 60; refine CallsIn.mono (callsIn_wide.2 (unused_any _ _)) ?_; rintro e w' ⟨rfl, rfl⟩)
  refine range_wide (gf := 102) (lb := #[.pointer (some ⟨w.heap.size + 1, 0, none⟩)]) rfl (enters_of Try.func102 (by kernel_rfl) rfl) ?_
  intro rec D L W1 hD hL hrule hs1 hl1 hd1 _
  simp only [World.size_alloc, World.size_setCell] at hD
  have hc0 : W1.cell? ⟨w.heap.size, 0, none⟩ = some (.int .i64 0) := hs1.cell (by simp [go_sem]) (by simp)
  have hf0 : W1.frozen? ⟨w.heap.size, 0, none⟩ = false := (hs1.frozen (by simp; omega) (by simp)).trans (by simp [go_sem])
  have hb0 : W1.cell? ⟨w.heap.size + 1, 0, none⟩ = some (.pointer (some ⟨f, 0, none⟩)) := hs1.cell (by simp [go_sem]) (by simp)
  have hs2 : Same (fun k => w.heap.size ≤ k) w W1 := (((Same.refl _ w).alloc _).alloc _).trans (hs1.mono (by simp))
  refine Calls.mono (unused1 L (w.heap.size + 1) f fb M.n M.R (fun i W => W.cell? ⟨w.heap.size, 0, none⟩ = some (.int .i64 (nfree M.R i)) ∧ W.frozen? ⟨w.heap.size, 0, none⟩ = false ∧
      W.cell? ⟨w.heap.size + 1, 0, none⟩ = some (.pointer (some ⟨f, 0, none⟩)) ∧ Same (fun k => w.heap.size ≤ k) w W ∧ W.heap[L]? = some (rec .ready none) ∧ W.heap[D]? = some (.deferred (some [])))
    (fun W => False) ⟨H.out.n1, hn2⟩ ?_ ?_ ?_ W1 ⟨hc0, hf0, hb0, hs2, hl1, hd1⟩) ?_
  · rintro i W hi ⟨h1, h2, h3, h4, h5, h6⟩
    exact ⟨h4.cell (H.out.rc i hi) (by simp; omega), h4.cell H.out.f0 (by simp; omega), h3⟩
  · rintro i W hi ⟨h1, h2, h3, h4, h5, h6⟩ hz
    exact ⟨by simp only [nfree]; rw [if_pos hz]; exact h1, h2, h3, h4, h5, h6⟩
  · rintro i W hi ⟨h1, h2, h3, h4, h5, h6⟩ hz
    have hnf := nfree_le M.R i
    refine hrule W _ _ h5 rfl ?_
    gi_wp2
    intro W2 hs2 hz2 hl2
    have hc2 := hs2.cell h1 (by simp; omega)
    have hf2 := hs2.unfrozen h1 h2 (by simp; omega)
    have hb2 := hs2.cell h3 (by simp; omega)
    have hd2 := hs2.block h6 (by omega)
    have hs3 := h4.trans (hs2.mono (fun k _ e => by omega))
    gi_wp2
    have hs5 : Same (fun k => w.heap.size ≤ k) W2 (W2.setCell ⟨w.heap.size, 0, none⟩ (.int .i64 (↑(nfree M.R i) + 1))) := (Same.refl _ _).setCell _ (.inr (Nat.le_refl _))
    have hs6 : Same (· = w.heap.size) W2 (W2.setCell ⟨w.heap.size, 0, none⟩ (.int .i64 (↑(nfree M.R i) + 1))) := (Same.refl _ _).setCell _ (.inr rfl)
    refine ⟨hs6.block hl2 (by omega), fun W3 hs4 _ hl4 => ⟨rfl, ?_, ?_, hs4.cell (hs6.cell hb2 (by simp)) (by simp; omega),
        (hs3.trans hs5).trans (hs4.mono (fun k _ e => by omega)), hl4, hs4.block (hs6.block hd2 (by omega)) (by omega)⟩⟩
    · simp only [nfree]; rw [if_neg (by omega)]
      exact hs4.cell (World.cell?_setCell_same _ _ _ hc2) (by simp; omega)
    · exact (hs4.unfrozen (World.cell?_setCell_same _ _ _ hc2) (by simpa using hf2) (by simp; omega))
  · rintro e W ⟨⟨v, rfl⟩, ⟨h1, h2, h3, h4, h5, h6⟩ | hf⟩
    · refine ⟨⟨_, rfl⟩, .inl ⟨h5, fun W2 hs2 _ => ?_⟩⟩
      have hc2 := hs2.cell h1 (by simp; omega)
      have hd2 := hs2.block h6 (by omega)
      have hs3 := h4.trans (hs2.mono (fun k _ e => by omega))
      gi_wp2
      refine leaves_mark hd2 fun W3 hs4 _ => ⟨results_tmp rfl _ _ _, ?_⟩
      exact ⟨rfl, (hs3.trans (hs4.mono (fun k _ e => by omega))).mono (fun k h h' => by omega)⟩
    · exact hf.elim
theorem left_nil (w : World) : Calls Try.prog 23 #[.pointer none] w fun e w' => e = .returned (.int .i64 0) ∧ Same (fun _ => False) w w' := by
  refine (callsIn_wide (n := 0)).1 ?_
  refine callsIn_of_wp_marks Try.func23 rfl trivial ?_ rfl
  simp only [Try.ntmps23, List.size_toArray, List.length_cons, List.length_nil, Nat.reduceAdd, Nat.reduceSub, Array.replicate_succ, Array.replicate_zero, List.push_toArray, List.append_toArray, List.nil_append, List.cons_append]
  gi_wp2
  refine leaves_nil (results_tmp rfl _ _ _) ⟨rfl, ?_⟩
  exact ((Same.refl _ _).alloc _)
end Go.Proofs.Ytlbgnmcjdmdjpaa
namespace Go.Proofs.Ytlbgnmcjdmdjpaa
open Go.RowKit Go.Shelf
attribute [local go_sem] Oper.semAt_some

/-- A frame allocated. -/
def Mm.alloc (M : Mm) (k : Nat) : Mm := { M with R := fun i => if i = k then 1 else M.R i, B := fun i j => if i = k then 0 else M.B i j }

theorem wpIn_world {F : Fence} {n : Nat} {P : Program} {c : Code} {Q : Exit → Act → World → Prop} {a : Act} {w : World} (h : ∀ w', w' = w → c.wpIn F n P Q a w') : c.wpIn F n P Q a w := h w rfl
def zer : Array Value := (List.replicate 64 (.int .u8 0)).toArray
theorem zeroV (w : World) : (zeroValue 133).run Try.prog w = .ok (.agg zer) w := by
  have h : (Try.prog.info? 133).map (·.zero) = some (some (.agg zer)) := by kernel_rfl
  cases hq : Try.prog.info? 133 with
  | none => rw [hq] at h; cases h
  | some i =>
    rw [hq] at h
    simp only [Option.map_some, Option.some.injEq] at h
    simp [zeroValue, typeInfo, hq, h]
theorem exec_alloc (w : World) (ρ : Operand → Value) (o : Oper) (hop : o.op = .alloc 133) : (execOp ρ o).run Try.prog w = .ok (.value (.pointer (some ⟨w.heap.size, 0, none⟩))) (w.alloc (.cells zer 133)) := by
  unfold execOp
  simp only [hop]
  simp [go_sem, zeroV]
  exact congrArg (fun c => w.alloc (.cells c 133)) (by simp only [zer, List.replicate_succ, List.replicate_zero])
theorem exec_build (w : World) (ρ : Operand → Value) (o : Oper) (hop : o.op = .build 133 #[]) : (execOp ρ o).run Try.prog w = .ok (.value (.agg zer)) w := by
  have h : Try.prog.built 133 [] = some zer := by kernel_rfl
  have := run_build (P := Try.prog) w 133 #[] zer h
  unfold execOp
  simp only [hop]
  simp [this, Sem.run_bind, Result.andThen]
theorem wpListIn_val {F : Fence} {n : Nat} {P : Program} {w w' : World} {ops : Array Oper} {rest : List Oper} {o : Oper} {a : Act} {Q : Exit → Act → World → Prop} {v : Value} (hg : o.guard = none) (hab : o.about P w a.eval = none)
    (hnd : ∀ c, o.op ≠ .defer c) (hrun : (execOp a.eval o).run P w = .ok (.value v) w') (h : wpListIn F n P ops Q rest (a.put o.dst v) w') : wpListIn F n P ops Q (o :: rest) a w := by
  refine wpListIn_plain hg fun K hK => ?_
  unfold Oper.wpIn
  refine ⟨fun f hf => (by rw [hab] at hf; cases hf), ?_⟩
  rw [Oper.semAt_plain F _ _ (fun c hc => hnd c hc), hrun]
  exact hK _ _ h
theorem wpListIn_skp {F : Fence} {n : Nat} {P : Program} {w w' : World} {ops : Array Oper} {rest : List Oper} {o : Oper} {a : Act} {Q : Exit → Act → World → Prop} (hg : o.guard = none) (hab : o.about P w a.eval = none)
    (hnd : ∀ c, o.op ≠ .defer c) (hrun : (execOp a.eval o).run P w = .ok .skip w') (h : wpListIn F n P ops Q rest (a.put o.dst undef) w') : wpListIn F n P ops Q (o :: rest) a w := by
  refine wpListIn_plain hg fun K hK => ?_
  unfold Oper.wpIn
  refine ⟨fun f hf => (by rw [hab] at hf; cases hf), ?_⟩
  rw [Oper.semAt_plain F _ _ (fun c hc => hnd c hc), hrun]
  exact hK _ _ h
theorem exec_store (w w' : World) (ρ : Operand → Value) (o : Oper) (t : TypeId) (x y : Operand) (p v : Value) (hop : o.op = .store t x y) (hx : ρ x = p) (hy : ρ y = v) (h : (Instr.storeAt t p v).run Try.prog w = .ok () w') : (execOp ρ o).run Try.prog w = .ok .skip w' := by
  unfold execOp
  simp only [hop, hx, hy]
  simp [h, Sem.run_bind, Result.andThen]
theorem zer_get (j : Nat) (hj : j < 64) : zer[j]? = some (.int .u8 0) := by
  unfold zer; rw [List.getElem?_toArray, List.getElem?_replicate, if_pos hj]
theorem zer_cell (w : World) (j : Nat) (hj : j < 64) : (w.alloc (.cells zer 133)).cell? ⟨w.heap.size, j, none⟩ = some (.int .u8 0) := by
  rw [World.cell?_alloc_new]; exact zer_get j hj
theorem zer_there (w : World) : (w.alloc (.cells zer 133)).there w.heap.size 0 zer.size := by
  intro j hj
  have hj' : j < 64 := by simpa [zer] using hj
  rw [Nat.zero_add]
  exact ⟨by rw [zer_cell w j hj']; rfl, by simp⟩
theorem zer_store (w : World) : (Instr.storeAt 133 (.pointer (some ⟨w.heap.size, 0, none⟩)) (.agg zer)).run Try.prog (w.alloc (.cells zer 133)) = .ok () ((w.alloc (.cells zer 133)).setCells w.heap.size 0 zer.toList) :=
  run_storeAt_mid _ _ _ _ _ (zer_there w) (by kernel_rfl) (by kernel_rfl)
theorem zer_cell2 (w : World) (j : Nat) (hj : j < 64) : ((w.alloc (.cells zer 133)).setCells w.heap.size 0 zer.toList).cell? ⟨w.heap.size, j, none⟩ = some (.int .u8 0) := by
  have hl : zer.toList.length = 64 := by simp [zer]
  have := World.cell?_setCells_in w.heap.size zer.toList 0 (w.alloc (.cells zer 133)) (fun q hq => by rw [Nat.zero_add, zer_cell w q (by omega)]; rfl) j (by omega)
  rw [Nat.zero_add] at this
  rw [this]
  have h2 := zer_get j hj
  rw [← Array.getElem?_toList, List.getElem?_eq_getElem (by omega)] at h2
  exact h2
theorem same_setCells (b : Nat) : ∀ (vs : List Value) (o : Nat) (W : World), Same (· = b) W (W.setCells b o vs) := by
  intro vs
  induction vs with
  | nil => intro o W; exact Same.refl _ _
  | cons v r ih => intro o W; exact ((Same.refl (· = b) W).setCell (a := ⟨b, o, none⟩) v (.inr rfl)).trans (ih (o + 1) _)
open Extern.Stop (cell) in
theorem load133 (w : World) (b o : Nat) (l : List UInt8) (hl : l.length = 64) (hc : ∀ j (hj : j < 64), w.cell? ⟨b, o + j, none⟩ = some (cell (l.getD j 0))) :
    (Instr.loadAt 133 (.pointer (some ⟨b, o, none⟩))).run Try.prog w = .ok (.agg (l.map cell).toArray) w := by
  refine run_loadAt_mid w b o 133 (l.map cell) (.array 64 5) (fun j v hv => ?_) Try.underlying133 rfl (by rw [List.length_map, hl]; kernel_rfl)
  have hj : j < 64 := by
    have := (List.getElem?_eq_some_iff.1 hv).1
    simpa [hl] using this
  rw [hc j hj]
  rw [List.getElem?_map, List.getElem?_eq_getElem (by omega)] at hv
  simp only [Option.map_some, Option.some.injEq] at hv
  rw [← hv, List.getD_eq_getElem?_getD, List.getElem?_eq_getElem (by omega)]
  rfl
open Extern.Stop (cell) in
theorem neq133 (w : World) (xs ys : List UInt8) (hx : xs.length = 64) (hy : ys.length = 64) :
    (Op.equalIn 10000 133 (.agg (xs.map cell).toArray) (.agg (ys.map cell).toArray)).run Try.prog w = .ok (xs == ys) w :=
  run_equalIn_bytes (P := Try.prog) w 9998 133 5 64 Try.underlying133 Try.underlying5 (fun w => by
      have : (Try.prog.info? 5).map (·.size) = some 1 := by kernel_rfl
      simp [go_sem, this]) xs ys hx hy
theorem MemAt.congr {w : World} {f fb : Nat} {M M' : Mm} (h : MemAt w f fb M) (hn : M'.n = M.n) (hR : ∀ i, i < M.n → M'.R i = M.R i) (hB : ∀ i, i < M.n → ∀ k, k < 64 → M'.B i k = M.B i k) : MemAt w f fb M' := by
  refine ⟨by rw [hn]; exact h.f0, fun i hi => ?_, fun i hi k hk => ?_, h.fz, h.sh, h.sf, fun i hi => ?_, h.ne, by rw [hn]; exact h.n1, by rw [hn]; exact h.n2⟩
  · rw [hn] at hi; rw [hR i hi]; exact h.rc i hi
  · rw [hn] at hi; rw [hB i hi k hk]; exact h.bc i hi k hk
  · rw [hn] at hi; rw [hR i hi]; exact h.rR i hi
theorem exec_load (w : World) (ρ : Operand → Value) (o : Oper) (t : TypeId) (x : Operand) (p v : Value) (hop : o.op = .load t x) (hx : ρ x = p) (h : (Instr.loadAt t p).run Try.prog w = .ok v w) : (execOp ρ o).run Try.prog w = .ok (.value v) w := by
  unfold execOp
  simp only [hop, hx]
  simp [h, Sem.run_bind, Result.andThen]
theorem exec_move (w : World) (ρ : Operand → Value) (o : Oper) (x : Operand) (v : Value) (hop : o.op = .move x) (hx : ρ x = v) : (execOp ρ o).run Try.prog w = .ok (.value v) w := by
  unfold execOp; simp only [hop, hx]; simp [go_sem]
theorem exec_nil (w : World) (ρ : Operand → Value) (o : Oper) (x : Operand) (p : Addr) (hop : o.op = .nilCheck x) (hx : ρ x = .pointer (some p)) : (execOp ρ o).run Try.prog w = .ok (.value (.pointer (some p))) w := by
  unfold execOp; simp only [hop, hx]; simp [go_sem]
theorem exec_bytes (w : World) (ρ : Operand → Value) (o : Oper) (x : Operand) (b q : Nat) (hop : o.op = .fieldAddr 135 x 1) (hx : ρ x = .pointer (some ⟨b, q, none⟩)) : (execOp ρ o).run Try.prog w = .ok (.value (.pointer (some ⟨b, q + 1, none⟩))) w := by
  unfold execOp; simp only [hop, hx]; simp [go_sem]
theorem MemAt.zeroed {w : World} {f fb : Nat} {M : Mm} {i : Nat} (h : MemAt w f fb (M.setR i 1)) (hi : i < M.n) (Z : Array Value) (hZ : Z = ((List.replicate 64 (0 : UInt8)).map Extern.Stop.cell).toArray) :
    (Instr.storeAt 133 (.pointer (some ⟨fb, i * 65 + 1, none⟩)) (.agg Z)).run Try.prog w = .ok () (w.setCells fb (i * 65 + 1) Z.toList) ∧ MemAt (w.setCells fb (i * 65 + 1) Z.toList) f fb (M.alloc i) ∧ Same (· = fb) w (w.setCells fb (i * 65 + 1) Z.toList) := by
  have hsz : Z.size = 64 := by rw [hZ]; simp
  have hl : ∀ j (hj : j < 64), Z[j]? = some (.int .u8 0) := by
    intro j hj
    rw [hZ, List.getElem?_toArray, List.getElem?_map, List.getElem?_replicate, if_pos hj]; rfl
  have h1 := run_storeAt_mid (P := Try.prog) w fb (i * 65 + 1) 133 Z (fun j hj => by
    rw [hsz] at hj
    exact ⟨by rw [h.bc i hi j hj]; rfl, h.fz _⟩) (by rw [hsz]; kernel_rfl) (by
    rw [Array.all_eq_true_iff_forall_mem]
    intro v hv
    obtain ⟨j, hj, rfl⟩ := Array.mem_iff_getElem.1 hv
    have := hl j (by omega)
    rw [Array.getElem?_eq_getElem hj] at this
    simp only [Option.some.injEq] at this
    rw [this]; rfl)
  obtain ⟨h2, h3⟩ := h.wr (k := i) (from_ := 0) hi ⟨(List.replicate 64 (0 : UInt8)).toArray⟩ (by simp [ByteArray.size])
  have e : (List.map (fun x : UInt8 => Value.int .u8 (x.toNat : Int)) (⟨(List.replicate 64 (0 : UInt8)).toArray⟩ : ByteArray).data.toList) = Z.toList := by rw [hZ]; rfl
  rw [e, Nat.add_zero] at h2 h3
  refine ⟨h1, h2.congr rfl (fun _ _ => rfl) (fun j hj k hk => ?_), h3⟩
  simp only [Mm.alloc, Mm.wr, Mm.setR]
  by_cases hji : j = i
  · rw [if_pos hji, if_pos ⟨hji, Nat.zero_le _, by simpa [ByteArray.size] using hk⟩]
    show (0 : UInt8) = ((List.replicate 64 (0 : UInt8)).toArray.toList[k - 0]?).getD 0
    rw [List.toList_toArray, Nat.sub_zero, List.getElem?_replicate, if_pos hk]; rfl
  · rw [if_neg hji, if_neg (fun h => hji h.1)]
theorem cell_ne {w : World} {a : Addr} {v u : Value} {b : Nat} {o : Nat} (h : w.cell? ⟨b, o, none⟩ = some u) (hne : a.block ≠ b ∨ a.off ≠ o) : (w.setCell a v).cell? ⟨b, o, none⟩ = some u := by
  rw [World.cell?_setCell_other]
  · exact h
  · intro h1; subst h1; simp at hne
theorem still_load {P : Program} {ops : Array Oper} {w : World} {Q : Act → Prop} {a : Act} {o : Oper} {rest : List Oper} (hg : o.guard = none) (ty : TypeId) (x : Operand) (hop : o.op = .load ty x)
    (p v : Value) (hx : a.eval x = p) (hrun : (Instr.loadAt ty p).run P w = .ok v w) (h : wpStill P ops w Q rest (a.put o.dst v)) : wpStill P ops w Q (o :: rest) a := by
  have hw : Region.wanted o (yielded ops a.tmps) = true := by simp [Region.wanted, hg]
  unfold wpStill
  rw [if_pos hw]
  unfold Oper.still execOp
  simp only [hop, hx, Sem.run_bind, hrun, Result.andThen_ok, Sem.run_pure]
  rw [Oper.stillUpon_value]
  exact h

theorem results_cells2 {fn : Func} {p q : Tmp} {t u : TypeId} (h : fn.results = #[.cell p t, .cell q u]) {tmps : Array Value} {P : Program} {w : World} {a b : Addr} {x y : Value} (hp : tmps.getD p undef = .pointer (some a)) (hq : tmps.getD q undef = .pointer (some b))
    (h1 : (loadVar t a).run P w = .ok x w) (h2 : (loadVar u b).run P w = .ok y w) : (results fn tmps).run P w = .ok (.tuple #[x, y]) w := by
  have e1 : (asAddr (tmps.getD p undef)).run P w = .ok a w := by rw [hp]; simp [asAddr]
  have e2 : (asAddr (tmps.getD q undef)).run P w = .ok b w := by rw [hq]; simp [asAddr]
  rw [Array.getD_eq_getD_getElem?] at e1 e2
  simp only [results, h]
  simp [Sem.run_bind, Result.andThen, e1, e2, h1, h2]
theorem loadVar3 (w : World) (a : Addr) (v : Value) (h : w.cell? a = some v) : (loadVar 3 a).run Try.prog w = .ok v w := by simp [go_sem, h]
theorem loadVar25 (w : World) (a : Addr) (v : Value) (h : w.cell? a = some v) : (loadVar 25 a).run Try.prog w = .ok v w := by simp [go_sem, h]

set_option maxHeartbeats 1600000 in
set_option maxRecDepth 8192 in
theorem alloc_any {w : World} {f fb : Nat} {M : Mm} (h : MemAt w f fb M) :
    Calls Try.prog 50 #[.pointer (some ⟨f, 0, none⟩)] w fun e w' =>
      ((∀ i, i < M.n → 0 < M.R i) ∧ e = .returned (.tuple #[.int .i64 0, .int .i64 11]) ∧ MemAt w' f fb M ∧ Same (fun _ => False) w w') ∨
      (∃ k, k < M.n ∧ M.R k ≤ 0 ∧ (∀ i, i < k → 0 < M.R i) ∧ e = .returned (.tuple #[.int .i64 k, .int .i64 0]) ∧ MemAt w' f fb (M.alloc k) ∧ Same (· = fb) w w') := by
  have hn2 := h.n2
  have hlt := h.lt
  have hne := h.ne
  have H := Lib.hid h
  clear h
  refine (callsIn_wide (n := 0)).1 ?_
  refine callsIn_of_wp_marks Try.func50 rfl trivial ?_ rfl
  simp only [Try.ntmps50, List.size_toArray, List.length_cons, List.length_nil, Nat.reduceAdd, Nat.reduceSub, Array.replicate_succ, Array.replicate_zero, List.push_toArray, List.append_toArray, List.nil_append, List.cons_append]
  gi_wp2_with (gi_at_call 60; refine CallsIn.mono (callsIn_wide.2 (unused_any _ _)) ?_; rintro e w' ⟨rfl, rfl⟩)
  refine range_wide (gf := 102) (lb := #[.pointer (some ⟨w.heap.size + 1 + 1 + 1, 0, none⟩)]) rfl (enters_of Try.func102 (by kernel_rfl) rfl) ?_
  intro rec D L W1 hD hL hrule hs1 hl1 hd1 _
  simp only [World.size_alloc, World.size_setCell] at hD
  have hc0 : W1.cell? ⟨w.heap.size, 0, none⟩ = some (.pointer (some ⟨f, 0, none⟩)) := hs1.cell (by simp [go_sem]) (by simp)
  have hc1 : W1.cell? ⟨w.heap.size + 1, 0, none⟩ = some (.int .i64 0) := hs1.cell (by simp [go_sem]) (by simp)
  have hc2 : W1.cell? ⟨w.heap.size + 1 + 1, 0, none⟩ = some (.int .i64 0) := hs1.cell (by simp [go_sem]) (by simp)
  have hb0 : W1.cell? ⟨w.heap.size + 1 + 1 + 1, 0, none⟩ = some (.pointer (some ⟨f, 0, none⟩)) := hs1.cell (by simp [go_sem]) (by simp)
  have hf1 : W1.frozen? ⟨w.heap.size + 1, 0, none⟩ = false := (hs1.frozen (by simp <;> omega) (by simp)).trans (by simp [go_sem])
  have hf2 : W1.frozen? ⟨w.heap.size + 1 + 1, 0, none⟩ = false := (hs1.frozen (by simp <;> omega) (by simp)).trans (by simp [go_sem])
  have hs2 : Same (fun k => w.heap.size ≤ k) w W1 := (((((Same.refl _ w).alloc _).alloc _).alloc _).alloc _).trans (hs1.mono (by simp))
  refine Calls.mono (unused1 L (w.heap.size + 1 + 1 + 1) f fb M.n M.R (fun i W => (∀ j, j < i → 0 < M.R j) ∧ W.cell? ⟨w.heap.size, 0, none⟩ = some (.pointer (some ⟨f, 0, none⟩)) ∧
      (W.cell? ⟨w.heap.size + 1, 0, none⟩ = some (.int .i64 0) ∧ W.cell? ⟨w.heap.size + 1 + 1, 0, none⟩ = some (.int .i64 0) ∧ W.frozen? ⟨w.heap.size + 1, 0, none⟩ = false ∧ W.frozen? ⟨w.heap.size + 1 + 1, 0, none⟩ = false) ∧
      W.cell? ⟨w.heap.size + 1 + 1 + 1, 0, none⟩ = some (.pointer (some ⟨f, 0, none⟩)) ∧ Same (fun k => w.heap.size ≤ k) w W ∧ W.heap[L]? = some (rec .ready none) ∧ W.heap[D]? = some (.deferred (some [])))
    (fun W => ∃ k, k < M.n ∧ M.R k ≤ 0 ∧ (∀ i, i < k → 0 < M.R i) ∧ W.cell? ⟨w.heap.size + 1, 0, none⟩ = some (.int .i64 k) ∧ W.cell? ⟨w.heap.size + 1 + 1, 0, none⟩ = some (.int .i64 0) ∧
      MemAt W f fb (M.alloc k) ∧ Same (fun b => w.heap.size ≤ b ∨ b = fb) w W ∧ W.heap[L]? = some (rec .done (some .ret)) ∧ W.heap[D]? = some (.deferred (some [])))
    ⟨H.out.n1, hn2⟩ ?_ ?_ ?_ W1 ⟨by omega, hc0, ⟨hc1, hc2, hf1, hf2⟩, hb0, hs2, hl1, hd1⟩) ?_
  · rintro i W hi ⟨h1, h2, h3, h4, h5, h6, h7⟩
    exact ⟨h5.cell (H.out.rc i hi) (by simp; omega), h5.cell H.out.f0 (by simp; omega), h4⟩
  · rintro i W hi ⟨h1, h2, h3, h4, h5, h6, h7⟩ hz
    exact ⟨fun j hj => by
      by_cases e : j = i
      · rw [e]; exact hz
      · exact h1 j (by omega), h2, h3, h4, h5, h6, h7⟩
  · rintro i W hi ⟨h1, h2, ⟨h31, h32, h33, h34⟩, h4, h5, h6, h7⟩ hz
    have hii : (i : Int) < M.n := by omega
    refine hrule W _ _ h6 rfl ?_
    gi_wp2
    intro W2 hs2 hz2 hl2
    have b0 := hs2.cell h2 (by simp; omega)
    have b1 := hs2.cell h31 (by simp; omega)
    have b2 := hs2.cell h32 (by simp; omega)
    have b3 := hs2.unfrozen h31 h33 (by simp; omega)
    have b4 := hs2.unfrozen h32 h34 (by simp; omega)
    have hd2 := hs2.block h7 (by omega)
    have hs3 := h5.trans (hs2.mono (fun k _ e => by omega))
    have hM2 := H.out.same hs3 (by omega) (by omega)
    have c0 := hM2.f0
    have c1 := hM2.rc i hi
    have z1 := hM2.fz (i * 65)
    have lb2 := hM2.lt.2
    gi_upto_region 7 with (fail)
    refine wpIn_region_lit ?_
    refine wpListIn_val rfl rfl (by intro c hc; cases hc) (exec_build _ _ _ rfl) ?_
    refine wpListIn_val rfl rfl (by intro c hc; cases hc) (exec_alloc _ _ _ rfl) ?_
    refine wpListIn_skp rfl rfl (by intro c hc; cases hc) (exec_store _ _ _ _ 133 (.tmp 6) (.tmp 22) _ _ rfl (by rfl) (by rfl) (zer_store _)) ?_
    refine wpListIn_nil ?_
    gi_upto_region 8 with (fail)
    refine wpIn_world fun W3 hW3 => ?_
    have hl2f := hM2.lt.1
    have zc := zer_cell2 (W2.setCell ⟨fb, i * 65, none⟩ (.int .i64 1))
    have zm := ((hM2.setR hi (v := 1) (by omega)).same0 (same_alloc (.cells zer 133))).same (same_setCells (W2.setCell ⟨fb, i * 65, none⟩ (.int .i64 1)).heap.size zer.toList 0 _) (by simp; omega) (by simp; omega)
    have zs : Same (· = fb) W2 (((W2.setCell ⟨fb, i * 65, none⟩ (.int .i64 1)).alloc (.cells zer 133)).setCells (W2.setCell ⟨fb, i * 65, none⟩ (.int .i64 1)).heap.size 0 zer.toList) :=
      (((Same.refl (· = fb) W2).setCell (a := ⟨fb, i * 65, none⟩) (.int .i64 1) (.inr rfl)).alloc (.cells zer 133)).trans' (same_setCells _ _ _ _) (by intro k hk h; simp at hk; omega)
    simp only [World.size_setCell, hz2] at zc zm zs hW3
    rw [← hW3] at zc zm zs
    have hz3 := zc
    have hM3 := zm
    have hs4 := zs
    clear zc zm zs
    obtain ⟨xs, hxs⟩ : ∃ xs, xs = (List.range 64).map fun j => M.B i j := ⟨_, rfl⟩
    obtain ⟨zs, hzs⟩ : ∃ zs, zs = List.replicate 64 (0 : UInt8) := ⟨_, rfl⟩
    obtain ⟨A, hA⟩ : ∃ A, A = (xs.map Extern.Stop.cell).toArray := ⟨_, rfl⟩
    obtain ⟨Z, hZ⟩ : ∃ Z, Z = (zs.map Extern.Stop.cell).toArray := ⟨_, rfl⟩
    have ld1 := load133 W3.drew fb (i * 65 + 1) xs (by simp [hxs]) (fun j hj => by
      have := hM3.bc i hi j hj
      simp [hxs, Extern.Stop.cell, hj, List.getD]
      exact this)
    have ld2 := load133 W3.drew W.heap.size 0 zs (by simp [hzs]) (fun j hj => by
      rw [hzs, List.getD_eq_getElem?_getD, List.getElem?_replicate, if_pos hj, Nat.zero_add]
      exact hz3 j hj)
    have hneq := neq133 W3.drew xs zs (by simp [hxs]) (by simp [hzs])
    rw [← hA] at ld1 hneq
    rw [← hZ] at ld2 hneq
    have HA := Lib.hid hA
    have HZ := Lib.hid hZ
    have HXS := Lib.hid hxs
    have HZS := Lib.hid hzs
    clear hA hZ hxs hzs
    clear hW3
    refine wpIn_region_still_tail (wide_round L) 5 (by kernel_rfl) (by kernel_rfl) (by kernel_rfl) ?_
    simp only [List.take_succ_cons, List.take_zero, List.drop_succ_cons, List.drop_zero]
    still_step
    still_step
    still_step
    refine still_load rfl 133 (.tmp 25) rfl _ _ (by rfl) ld1 ?_
    refine still_load rfl 133 (.tmp 6) rfl _ _ (by rfl) ld2 ?_
    refine wpStill_nil ?_
    have hd3 := hs4.block hd2 (by omega)
    have hl3 := hs4.block hl2 (by omega)
    have b1' := hs4.cell b1 (by simp; omega)
    have b2' := hs4.cell b2 (by simp; omega)
    have b3' := hs4.unfrozen b1 b3 (by simp; omega)
    have b4' := hs4.unfrozen b2 b4 (by simp; omega)
    have hM4 : MemAt W3.drew f fb (M.setR i 1) := hM3.same0 (Same.refl _ W3).drew
    clear hM3 b0 b1 b2 b3 b4 hd2 hl2 c0 c1 z1
    cases hb : xs == zs
    · rw [hb] at hneq
      obtain ⟨zst, hM5, hs6⟩ := hM4.zeroed hi Z (by rw [HZ.out, HZS.out])
      gi_upto_region 9 with (fail)
      refine wpIn_region_lit ?_
      refine wpListIn_val rfl rfl (by intro c hc; cases hc) (exec_move _ _ _ (.tmp 5) _ rfl (by rfl)) ?_
      refine wpListIn_val rfl rfl (by intro c hc; cases hc) (exec_load _ _ _ 133 (.tmp 6) _ _ rfl (by rfl) ld2) ?_
      refine wpListIn_val rfl rfl (by intro c hc; cases hc) (exec_nil _ _ _ (.tmp 29) _ rfl (by rfl)) ?_
      refine wpListIn_val rfl rfl (by intro c hc; cases hc) (exec_bytes _ _ _ (.tmp 31) _ _ rfl (by rfl)) ?_
      refine wpListIn_skp rfl rfl (by intro c hc; cases hc) (exec_store _ _ _ _ 133 (.tmp 32) (.tmp 30) _ _ rfl (by rfl) (by rfl) zst) ?_
      refine wpListIn_nil ?_
      have hs7 := Same.trans ((Same.refl (· = fb) W3).drew) hs6
      have b1'' := hs7.cell b1' (by simp; omega)
      have b2'' := hs7.cell b2' (by simp; omega)
      have b3'' := hs7.unfrozen b1' b3' (by simp; omega)
      have b4'' := hs7.unfrozen b2' b4' (by simp; omega)
      have hl7 := hs7.block hl3 (by omega)
      have hd7 := hs7.block hd3 (by omega)
      obtain ⟨W7, hW7⟩ : ∃ W7, W7 = (W3.drew.setCells fb (i * 65 + 1) Z.toList) := ⟨_, rfl⟩
      rw [← hW7] at hs7 b1'' b2'' b3'' b4'' hl7 hd7 hM5 ⊢
      clear hW7 hs6 zst ld1 ld2 b1' b2' b3' b4' hl3 hd3 hneq
      gi_wp2
      have q1 : Same (fun k => w.heap.size ≤ k) W7 ((W7.setCell ⟨w.heap.size + 1, 0, none⟩ (.int .i64 ↑i)).setCell ⟨w.heap.size + 1 + 1, 0, none⟩ (.int .i64 0)) := ((Same.refl _ W7).setCell _ (.inr (by simp))).setCell _ (.inr (by simp; omega))
      have q2 : Same (fun k => k = w.heap.size + 1 ∨ k = w.heap.size + 1 + 1) W7 ((W7.setCell ⟨w.heap.size + 1, 0, none⟩ (.int .i64 ↑i)).setCell ⟨w.heap.size + 1 + 1, 0, none⟩ (.int .i64 0)) := ((Same.refl _ W7).setCell _ (.inr (by simp))).setCell _ (.inr (by simp))
      refine ⟨q2.block hl7 (by omega), fun W4 hs5 _ hl5 => .inr ⟨rfl, i, hi, hz, h1, ?_, ?_, ?_, ?_, hl5, ?_⟩⟩
      · exact hs5.cell (cell_ne (World.cell?_setCell_same _ _ _ b1'') (.inl (by simp))) (by simp; omega)
      · refine hs5.cell (World.cell?_setCell_same _ _ _ (cell_ne b2'' (.inl (by simp)))) (by simp; omega)
      · exact (hM5.same q2 (by omega) (by omega)).same hs5 (by omega) (by omega)
      · exact ((hs3.mono (fun k _ h => .inl h)).trans (((hs4.trans hs7).mono (fun k _ h => .inr h)).trans' (q1.mono (fun k _ h => .inl h)) (fun k h _ => h))).trans (hs5.mono (fun k _ e => by omega))
      · exact hs5.block (q2.block hd7 (by omega)) (by omega)
    · rw [hb] at hneq
      gi_wp2
      have q1 : Same (fun k => w.heap.size ≤ k) W3 (((W3.setCell ⟨w.heap.size + 1, 0, none⟩ (.int .i64 ↑i)).setCell ⟨w.heap.size + 1 + 1, 0, none⟩ (.int .i64 0)).drew) := (((Same.refl _ W3).setCell _ (.inr (by simp))).setCell _ (.inr (by simp; omega))).drew
      have q2 : Same (fun k => k = w.heap.size + 1 ∨ k = w.heap.size + 1 + 1) W3 (((W3.setCell ⟨w.heap.size + 1, 0, none⟩ (.int .i64 ↑i)).setCell ⟨w.heap.size + 1 + 1, 0, none⟩ (.int .i64 0)).drew) := (((Same.refl _ W3).setCell _ (.inr (by simp))).setCell _ (.inr (by simp))).drew
      have hM5 : MemAt W3 f fb (M.alloc i) := by
        refine (hM4.same0 (w' := W3) ⟨rfl, rfl, rfl, Nat.le_refl _, fun _ _ _ => rfl, fun _ _ => rfl⟩).congr rfl (fun _ _ => rfl) (fun j hj k hk => ?_)
        simp only [Mm.alloc, Mm.setR]
        split
        · rename_i e
          subst e
          have e1 : xs = zs := by simpa using hb
          have e2 : xs[k]? = zs[k]? := by rw [e1]
          rw [HXS.out, HZS.out, List.getElem?_map, List.getElem?_range hk, List.getElem?_replicate, if_pos hk] at e2
          simpa using e2.symm
        · rfl
      refine ⟨q2.block hl3 (by omega), fun W4 hs5 _ hl5 => .inr ⟨rfl, i, hi, hz, h1, ?_, ?_, ?_, ?_, hl5, ?_⟩⟩
      · exact hs5.cell (cell_ne (World.cell?_setCell_same _ _ _ b1') (.inl (by simp))) (by simp; omega)
      · refine hs5.cell (World.cell?_setCell_same _ _ _ (cell_ne b2' (.inl (by simp)))) (by simp; omega)
      · exact (hM5.same q2 (by omega) (by omega)).same hs5 (by omega) (by omega)
      · exact ((hs3.mono (fun k _ h => .inl h)).trans ((hs4.mono (fun k _ h => .inr h)).trans' (q1.mono (fun k _ h => .inl h)) (fun k h _ => h))).trans (hs5.mono (fun k _ e => by omega))
      · exact hs5.block (q2.block hd3 (by omega)) (by omega)
  · rintro e W ⟨⟨v, rfl⟩, ⟨h1, h2, ⟨h31, h32, h33, h34⟩, h4, h5, h6, h7⟩ | ⟨k, hk, hz, h1, h31, h32, hM, h5, h6, h7⟩⟩
    · refine ⟨⟨_, rfl⟩, .inl ⟨h6, fun W2 hs2 _ => ?_⟩⟩
      have b1 := hs2.cell h31 (by simp; omega)
      have b2 := hs2.cell h32 (by simp; omega)
      have b3 := hs2.unfrozen h31 h33 (by simp; omega)
      have b4 := hs2.unfrozen h32 h34 (by simp; omega)
      have hd2 := hs2.block h7 (by omega)
      have hs3 := h5.trans (hs2.mono (fun k _ e => by omega))
      gi_wp2
      have q2 : Same (fun k => k = w.heap.size + 1 ∨ k = w.heap.size + 1 + 1) W2 ((W2.setCell ⟨w.heap.size + 1, 0, none⟩ (.int .i64 0)).setCell ⟨w.heap.size + 1 + 1, 0, none⟩ (.int .i64 11)) := ((Same.refl _ W2).setCell _ (.inr (by simp))).setCell _ (.inr (by simp))
      refine leaves_mark (q2.block hd2 (by omega)) fun W3 hs4 _ => ⟨results_cells2 rfl (by rfl) (by rfl) (loadVar3 _ _ _ ?_) (loadVar25 _ _ _ ?_), .inl ⟨h1, rfl, ?_, ?_⟩⟩
      · exact hs4.cell (cell_ne (World.cell?_setCell_same _ _ _ b1) (.inl (by simp))) (by simp; omega)
      · exact hs4.cell (World.cell?_setCell_same _ _ _ (cell_ne b2 (.inl (by simp)))) (by simp; omega)
      · exact ((H.out.same hs3 (by omega) (by omega)).same q2 (by omega) (by omega)).same hs4 (by omega) (by omega)
      · exact ((hs3.trans (q2.mono (fun k _ h => by omega))).trans (hs4.mono (fun k _ e => by omega))).mono (fun k h h' => by omega)
    · refine ⟨⟨_, rfl⟩, .inr ⟨_, h6, fun W2 hs2 _ => ?_⟩⟩
      have b1 := hs2.cell h31 (by simp; omega)
      have b2 := hs2.cell h32 (by simp; omega)
      have hd2 := hs2.block h7 (by omega)
      have hs3 := h5.trans (hs2.mono (fun k _ e => by omega))
      have hM2 := hM.same hs2 (by omega) (by omega)
      gi_wp2
      refine leaves_mark hd2 fun W3 hs4 _ => ⟨results_cells2 rfl (by rfl) (by rfl) (loadVar3 _ _ _ ?_) (loadVar25 _ _ _ ?_), .inr ⟨k, hk, hz, h1, rfl, ?_, ?_⟩⟩
      · exact hs4.cell b1 (by simp; omega)
      · exact hs4.cell b2 (by simp; omega)
      · exact hM2.same hs4 (by omega) (by omega)
      · exact (hs3.trans (hs4.mono (fun k _ e => by omega))).mono (fun k h h' => by omega)
end Go.Proofs.Ytlbgnmcjdmdjpaa
namespace Go.Proofs.Ytlbgnmcjdmdjpaa
open Go.RowKit Go.Shelf
attribute [local go_sem] Oper.semAt_some

theorem new_bad (w : World) (n : Int) (hn : n < 1 ∨ 256 < n) : Calls Try.prog 20 #[.int .i64 n] w fun e w' => e = .returned (.tuple #[.pointer none, .int .i64 2]) ∧ w = w' := by
  have hb : (decide (n < 1) || decide (256 < n)) = true := by simpa using hn
  clear hn
  go_enter Try.func20, Try.ntmps20
  go_wp2
  all_goals
    go_ret2
    exact ⟨rfl, rfl⟩
theorem shape_alloc (w : World) (c : Array Value) (e : TypeId) (k : Nat) : (w.alloc (.cells c e)).shape? k = if k = w.heap.size then some (e, c.size) else w.shape? k := by
  unfold World.shape? World.alloc
  rw [Array.getElem?_push]
  by_cases h : k = w.heap.size <;> simp [h]
theorem new2 {w w' : World} {x y : Value} {t : TypeId} {S : Nat → Prop} (hs : Same S (w.alloc (.cells #[x, y] t)) w') (hS : ¬ S w.heap.size) :
    w'.cell? ⟨w.heap.size, 0, none⟩ = some x ∧ w'.cell? ⟨w.heap.size, 1, none⟩ = some y ∧ w'.frozen? ⟨w.heap.size, 0, none⟩ = false ∧ w'.frozen? ⟨w.heap.size, 1, none⟩ = false ∧ w.heap.size < w'.heap.size := by
  have h0 : (w.alloc (.cells #[x, y] t)).cell? ⟨w.heap.size, 0, none⟩ = some x := by simp
  have h1 : (w.alloc (.cells #[x, y] t)).cell? ⟨w.heap.size, 1, none⟩ = some y := by simp
  refine ⟨hs.cell h0 hS, hs.cell h1 hS, hs.unfrozen h0 (by simp) hS, hs.unfrozen h1 (by simp) hS, ?_⟩
  have := hs.size; simp at this; omega

def zf : Array Value := (.int .i64 0 :: List.replicate 64 (.int .u8 0)).toArray
theorem zf_get (j : Nat) (hj : j < 65) : zf[j]! = if j = 0 then .int .i64 0 else .int .u8 0 := by
  have : zf[j]? = some (if j = 0 then .int .i64 0 else .int .u8 0) := by
    unfold zf
    rw [List.getElem?_toArray]
    cases j with
    | zero => rfl
    | succ j => rw [List.getElem?_cons_succ, List.getElem?_replicate, if_pos (by omega)]; rfl
  rw [getElem!_def, this]
theorem zf_made (n i q : Nat) (hi : i < n) (hq : q < 65) : (madeCells zf (n * 65))[i * 65 + q]? = some (if q = 0 then .int .i64 0 else .int .u8 0) := by
  have hs : zf.size = 65 := by unfold zf; simp
  have hlt : i * 65 + q < n * 65 := by have := Nat.mul_le_mul_right 65 (show i + 1 ≤ n from hi); omega
  unfold madeCells
  rw [Array.getElem?_map, Array.getElem?_range, if_pos hlt]
  simp only [Option.map_some, hs]
  rw [show (i * 65 + q) % 65 = q by omega, zf_get q hq]
theorem info135 : (Try.prog.info? 135).map (fun i => (i.zero, i.size, i.bytes)) = some (some (.agg zf), 65, 72) := by kernel_rfl
theorem exec_make (w : World) (ρ : Operand → Value) (o : Oper) (x y : Operand) (n : Nat) (hn : n ≤ 256) (hop : o.op = .makeSlice 100 x y) (hx : ρ x = .int .i64 n) (hy : ρ y = .int .i64 n) :
    (execOp ρ o).run Try.prog w = .ok (.value (.slice (some ⟨w.heap.size, 0, none⟩) n n)) (w.alloc (.cells (madeCells zf (n * 65)) 135)) := by
  have hq := info135
  cases h : Try.prog.info? 135 with
  | none => rw [h] at hq; cases hq
  | some i =>
    rw [h] at hq
    simp only [Option.map_some, Option.some.injEq, Prod.mk.injEq] at hq
    obtain ⟨h1, h2, h3⟩ := hq
    have := run_make (P := Try.prog) w 100 135 i _ Try.underlying100 h h1 .i64 .i64 n n (by omega) (by omega) (by rw [h3]; omega) (by omega)
    unfold execOp
    simp only [hop, hx, hy]
    rw [h2] at this
    simp only [Int.toNat_natCast, Value.cells] at this
    simp [this, Sem.run_bind, Result.andThen]

set_option maxHeartbeats 1600000 in
theorem new_any (w : World) (n : Nat) (h1 : 1 ≤ n) (h2 : n ≤ 256) : Calls Try.prog 20 #[.int .i64 n] w fun e w' => ∃ f fb, e = .returned (.tuple #[.pointer (some ⟨f, 0, none⟩), .int .i64 0]) ∧
    w.heap.size ≤ f ∧ w.heap.size ≤ fb ∧ MemAt w' f fb ⟨n, fun _ => 0, fun _ _ => 0⟩ ∧ Same (fun _ => False) w w' := by
  have hb : (decide ((n : Int) < 1) || decide (256 < (n : Int))) = false := by simp; omega
  refine (callsIn_wide (n := 0)).1 ?_
  refine callsIn_of_wp Try.func20 rfl trivial ?_ rfl
  simp only [Try.ntmps20, List.size_toArray, List.length_cons, List.length_nil, Nat.reduceAdd, Nat.reduceSub, Array.replicate_succ, Array.replicate_zero, List.push_toArray, List.append_toArray, List.nil_append, List.cons_append]
  gi_upto_region 3 with (fail)
  refine wpIn_region_lit ?_
  refine wpListIn_val rfl rfl (by intro c hc; cases hc) (exec_move _ _ _ (.tmp 0) _ rfl (by rfl)) ?_
  refine wpListIn_val rfl rfl (by intro c hc; cases hc) (exec_make _ _ _ (.tmp 10) (.tmp 10) n h2 rfl (by rfl) (by rfl)) ?_
  have hM : MemAt ((w.alloc (.cells (madeCells zf (n * 65)) 135)).alloc (.cells #[.slice (some ⟨w.heap.size, 0, none⟩) n n] 102)) (w.heap.size + 1) w.heap.size ⟨n, fun _ => 0, fun _ _ => 0⟩ := by
    have hx : ∀ i q, i < n → q < 65 → ((w.alloc (.cells (madeCells zf (n * 65)) 135)).alloc (.cells #[.slice (some ⟨w.heap.size, 0, none⟩) n n] 102)).cell? ⟨w.heap.size, i * 65 + q, none⟩ = some (if q = 0 then .int .i64 0 else .int .u8 0) := by
      intro i q hi hq
      refine (same_alloc _).cell ?_ (fun h => h)
      rw [World.cell?_alloc_new]
      exact zf_made n i q hi hq
    refine ⟨by simp, fun i hi => ?_, fun i hi k hk => ?_, fun o => by simp, ⟨(n * 65), ?_⟩, ⟨1, ?_⟩, fun i hi => by simp, by simp, h1, h2⟩
    · exact hx i 0 hi (by omega)
    · have := hx i (1 + k) hi (by omega)
      rw [if_neg (by omega), ← Nat.add_assoc] at this
      exact this
    · rw [shape_alloc, if_neg (by simp), shape_alloc, if_pos rfl, size_madeCells]
    · rw [shape_alloc, if_pos (by simp)]; rfl
  have hs : Same (fun _ => False) w ((w.alloc (.cells (madeCells zf (n * 65)) 135)).alloc (.cells #[.slice (some ⟨w.heap.size, 0, none⟩) n n] 102)) := (same_alloc _).alloc _
  have HM := Lib.hid hM
  have HS := Lib.hid hs
  clear hM hs
  gi_wp2
  exact bodyPost_ret (results_tmp2 rfl _ _ _) rfl ⟨_, _, rfl, by omega, by omega, HM.out, HS.out⟩

/-- An entry of a table: its flags, its frame. -/
def Mm.ent (M : Mm) (k i : Nat) : Int × Int := ((M.B k (4 * i)).toNat, (M.B k (4 * i + 2)).toNat * 256 + (M.B k (4 * i + 3)).toNat)
def Mm.get (M : Mm) (t : Int) (i : Nat) : Int × Int := if M.isUsed t then M.ent t.toNat i else (0, 0)
theorem Mm.str4 (M : Mm) (k s : Nat) : M.str k s 4 = ⟨#[M.B k s, M.B k (s + 1), M.B k (s + 2), M.B k (s + 3)]⟩ := rfl
theorem bits_or_i64_nat (a b : Nat) (ha : a < 9223372036854775808) (hb : b < 9223372036854775808) : bits .or .i64 (a : Int) (b : Int) = ((a ||| b : Nat) : Int) := by
  have hx : a ||| b < 2 ^ 63 := Nat.or_lt_two_pow (by omega) (by omega)
  have h1 : (BitVec.ofInt 64 (a : Int)).toNat = a := by
    rw [BitVec.ofInt_natCast, BitVec.toNat_ofNat]; exact Nat.mod_eq_of_lt (by omega)
  have h2 : (BitVec.ofInt 64 (b : Int)).toNat = b := by
    rw [BitVec.ofInt_natCast, BitVec.toNat_ofNat]; exact Nat.mod_eq_of_lt (by omega)
  show IntKind.i64.wrap ((BitVec.ofInt 64 (a : Int) ||| BitVec.ofInt 64 (b : Int)).toNat : Int) = _
  rw [BitVec.toNat_or, h1, h2, IntKind.wrap_i64]
  omega
theorem wrap64_id (n : Nat) (h : n < 9223372036854775808) : wrap64 (n : Int) = n := by
  unfold wrap64
  omega
theorem or_byte (a b : UInt8) : bits .or .i64 (wrap64 (wrap64 (a.toNat : Int) * 256)) (wrap64 (b.toNat : Int)) = (a.toNat : Int) * 256 + b.toNat := by
  have ha := a.toNat_lt
  have hb := b.toNat_lt
  rw [wrap64_id a.toNat (by omega), show ((a.toNat : Int) * 256) = ((a.toNat * 256 : Nat) : Int) by omega, wrap64_id (a.toNat * 256) (by omega), wrap64_id b.toNat (by omega), bits_or_i64_nat _ _ (by omega) (by omega)]
  have := Nat.shiftLeft_add_eq_or_of_lt (i := 8) (b := b.toNat) (by omega) a.toNat
  rw [Nat.shiftLeft_eq] at this
  rw [show a.toNat * 256 = a.toNat * 2 ^ 8 from rfl, ← this]
  simp
theorem bs0 (a b c d : UInt8) (h) : (⟨#[a, b, c, d]⟩ : ByteArray)[0]'h = a := rfl
theorem bs2 (a b c d : UInt8) (h) : (⟨#[a, b, c, d]⟩ : ByteArray)[2]'h = c := rfl
theorem bs3 (a b c d : UInt8) (h) : (⟨#[a, b, c, d]⟩ : ByteArray)[3]'h = d := rfl
theorem results_cell1 {fn : Func} {p : Tmp} {t : TypeId} (h : fn.results = #[.cell p t]) {tmps : Array Value} {P : Program} {w : World} {a : Addr} {x : Value} (hp : tmps.getD p undef = .pointer (some a))
    (h1 : (loadVar t a).run P w = .ok x w) : (results fn tmps).run P w = .ok x w := by
  have e1 : (asAddr (tmps.getD p undef)).run P w = .ok a w := by rw [hp]; simp [asAddr]
  rw [Array.getD_eq_getD_getElem?] at e1
  simp only [results, h]
  simp [Sem.run_bind, Result.andThen, e1, h1]
theorem loadVar108 (w : World) (b o : Nat) (x y : Value) (h : w.cell? ⟨b, o, none⟩ = some x) (h1 : w.cell? ⟨b, o + 1, none⟩ = some y) : (loadVar 108 ⟨b, o, none⟩).run Try.prog w = .ok (.agg #[x, y]) w := by simp [go_sem, h, h1]
set_option maxHeartbeats 1600000 in
set_option maxRecDepth 8192 in
theorem get_any {w : World} {f fb : Nat} {M : Mm} (h : MemAt w f fb M) (t : Int) (i : Nat) (hi : i < 16) :
    Calls Try.prog 63 #[.pointer (some ⟨f, 0, none⟩), .int .i64 t, .int .i64 i] w fun e w' => e = .returned (.agg #[.int .i64 (M.get t i).1, .int .i64 (M.get t i).2]) ∧ Same (fun _ => False) w w' := by
  cases hu : M.isUsed t with
  | false =>
    refine (callsIn_wide (n := 0)).1 ?_
    refine callsIn_of_wp Try.func63 rfl trivial ?_ rfl
    simp only [Try.ntmps63, List.size_toArray, List.length_cons, List.length_nil, Nat.reduceAdd, Nat.reduceSub, Array.replicate_succ, Array.replicate_zero, List.push_toArray, List.append_toArray, List.nil_append, List.cons_append]
    gi_wp2_with (gi_at_call 35; refine CallsIn.mono (callsIn_wide.2 (read_bad (h.same0 (same_alloc _)) t _ _ hu)) ?_; rintro e w' ⟨rfl, hs⟩; obtain ⟨c0, c1, z0, z1, l1⟩ := new2 hs (by simp))
    have hr : M.get t i = (0, 0) := by simp [Mm.get, hu]
    refine bodyPost_ret (results_cell1 rfl (by rfl) (loadVar108 _ _ _ _ _ (cell_ne (World.cell?_setCell_same _ _ _ c0) (by simp)) (World.cell?_setCell_same _ _ _ (cell_ne c1 (by simp))))) rfl ⟨by rw [hr], ?_⟩
    exact ((((Same.refl _ w).alloc _).trans (hs.mono (by simp))).setCell (S := fun k => w.heap.size ≤ k) _ (.inr (by simp))).setCell _ (.inr (by simp)) |>.mono (fun k h h' => by omega)
  | true =>
    obtain ⟨k, rfl, hk, hR⟩ := Mm.used_iff hu
    have hii : ((4 * i : Nat) : Int) = 4 * (i : Int) := by omega
    have hrd := fun w' (hM : MemAt w' f fb M) => read_ok hM k (4 * i) 4 hk hR (by omega) (by omega)
    rw [Mm.str4] at hrd
    rw [hii] at hrd
    refine (callsIn_wide (n := 0)).1 ?_
    refine callsIn_of_wp Try.func63 rfl trivial ?_ rfl
    simp only [Try.ntmps63, List.size_toArray, List.length_cons, List.length_nil, Nat.reduceAdd, Nat.reduceSub, Array.replicate_succ, Array.replicate_zero, List.push_toArray, List.append_toArray, List.nil_append, List.cons_append]
    gi_wp2_with (gi_at_call 35; refine CallsIn.mono (callsIn_wide.2 (hrd _ (h.same0 (same_alloc _)))) ?_; rintro e w' ⟨rfl, hs⟩)
    obtain ⟨c0, c1, z0, z1, l1⟩ := new2 hs (by simp)
    have c0' : w'.drew.cell? ⟨w.heap.size, 0, none⟩ = some (.int .i64 0) := c0
    have c1' : w'.drew.cell? ⟨w.heap.size, 1, none⟩ = some (.int .i64 0) := c1
    have z0' : w'.drew.frozen? ⟨w.heap.size, 0, none⟩ = false := z0
    have z1' : w'.drew.frozen? ⟨w.heap.size, 1, none⟩ = false := z1
    refine wpIn_region_still_tail wide_self 12 (by kernel_rfl) (by kernel_rfl) (by kernel_rfl) ?_
    simp only [List.take_succ_cons, List.take_zero, List.drop_succ_cons, List.drop_zero]
    repeat still_step
    refine wpStill_nil ?_
    gi_wp2
    have hr : M.get k i = (((M.B k (4 * i)).toNat : Int), ((M.B k (4 * i + 2)).toNat : Int) * 256 + ((M.B k (4 * i + 3)).toNat : Int)) := by simp [Mm.get, hu, Mm.ent]
    have e0 := wrap64_id (M.B k (4 * i)).toNat (by have := (M.B k (4 * i)).toNat_lt; omega)
    have e1 := or_byte (M.B k (4 * i + 2)) (M.B k (4 * i + 3))
    simp only [bs0, bs2, bs3, e0, e1]
    refine bodyPost_ret (results_cell1 rfl (by rfl) (loadVar108 _ _ _ _ _ (cell_ne (World.cell?_setCell_same _ _ _ c0) (by simp)) (World.cell?_setCell_same _ _ _ (cell_ne c1 (by simp))))) rfl ⟨?_, ?_⟩
    · rw [hr]
    · exact ((((Same.refl _ w).alloc _).trans (hs.mono (by simp))).setCell (S := fun k => w.heap.size ≤ k) _ (.inr (by simp))).setCell _ (.inr (by simp)) |>.drew |>.mono (fun k h h' => by omega)
end Go.Proofs.Ytlbgnmcjdmdjpaa
namespace Go.Proofs.Ytlbgnmcjdmdjpaa
open Go.RowKit Go.Shelf
attribute [local go_sem] Oper.semAt_some

def Mm.put (M : Mm) (t : Int) (i fl fr : Nat) : Mm := if M.isUsed t then M.wr t.toNat (4 * i) ⟨#[UInt8.ofNat fl, 0, UInt8.ofNat (fr / 256), UInt8.ofNat fr]⟩ else M

set_option maxHeartbeats 1600000 in
set_option maxRecDepth 8192 in
theorem put_any {w : World} {f fb : Nat} {M : Mm} (h : MemAt w f fb M) (t : Int) (i fl fr : Nat) (hi : i < 16) (hfl : fl < 256) (hfr : fr < 65536) :
    Calls Try.prog 64 #[.pointer (some ⟨f, 0, none⟩), .int .i64 t, .int .i64 i, .agg #[.int .i64 fl, .int .i64 fr]] w fun e w' => e = .returned (.tuple #[]) ∧ MemAt w' f fb (M.put t i fl fr) ∧ Same (· = fb) w w' := by
  have hcv := run_convert_bytes_back (P := Try.prog) ((w.alloc (.cells #[.int .i64 fl, .int .i64 fr] 108)).alloc (.cells #[.int .u8 fl, .int .u8 0, .int .u8 ((fr : Int) / 256), .int .u8 ((fr : Int) % 256)] 5)) 66 9 5 ⟨w.heap.size + 1, 0, none⟩ 4
    [UInt8.ofNat fl, 0, UInt8.ofNat (fr / 256), UInt8.ofNat fr] Try.underlying66 Try.underlying5 Try.underlying9 (by
      intro j hj
      have e0 : ((UInt8.ofNat fl).toNat : Int) = fl := by simp; omega
      have e2 : ((UInt8.ofNat (fr / 256)).toNat : Int) = (fr : Int) / 256 := by simp; omega
      have e3 : ((UInt8.ofNat fr).toNat : Int) = (fr : Int) % 256 := by simp
      match j, hj with
      | 0, _ => simp only [List.getElem_cons_zero, e0]; simp [Addr.add]
      | 1, _ => simp [Addr.add]
      | 2, _ => simp only [List.getElem_cons_succ, List.getElem_cons_zero, e2]; simp [Addr.add]
      | 3, _ => simp only [List.getElem_cons_succ, List.getElem_cons_zero, e3]; simp [Addr.add])
  have hs1 : Same (fun _ => False) w ((w.alloc (.cells #[.int .i64 fl, .int .i64 fr] 108)).alloc (.cells #[.int .u8 fl, .int .u8 0, .int .u8 ((fr : Int) / 256), .int .u8 ((fr : Int) % 256)] 5)) := (same_alloc _).alloc _
  simp only [List.length_cons, List.length_nil, Nat.zero_add, Nat.reduceAdd] at hcv
  have hM1 := h.same0 hs1
  have hii : ((4 * i : Nat) : Int) = 4 * (i : Int) := by omega
  cases hu : M.isUsed t with
  | false =>
    have hwr := write_bad hM1 t ((4 * i : Nat) : Int) ⟨#[UInt8.ofNat fl, 0, UInt8.ofNat (fr / 256), UInt8.ofNat fr]⟩ hu
    rw [hii] at hwr
    go_enter Try.func64, Try.ntmps64
    go_wp2_with fail
    refine (hwr).mono ?_
    rintro e w' ⟨rfl, hs⟩
    go_wp2
    go_end0
    exact ⟨rfl, by simp only [Mm.put, hu]; exact hM1.same0 hs, (hs1.trans hs).mono (fun _ _ h => h.elim)⟩
  | true =>
    obtain ⟨k, rfl, hk, hR⟩ := Mm.used_iff hu
    have hwr := write_ok hM1 k (4 * i) ⟨#[UInt8.ofNat fl, 0, UInt8.ofNat (fr / 256), UInt8.ofNat fr]⟩ hk hR (by omega) (by simp [ByteArray.size]; omega)
    rw [hii] at hwr
    go_enter Try.func64, Try.ntmps64
    go_wp2_with fail
    refine (hwr).mono ?_
    rintro e w' ⟨rfl, hM, hs⟩
    go_wp2
    go_end0
    exact ⟨rfl, by simp only [Mm.put, hu, if_true, Int.toNat_natCast]; exact hM, (hs1.mono (fun _ _ h => h.elim)).trans hs⟩
end Go.Proofs.Ytlbgnmcjdmdjpaa
