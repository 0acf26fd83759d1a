/-  -/
import Derived.Test.YtlbgnmcjdmdjpaaK2
import Derived.Test.YtlbgnmcjdmdjpaaK3
import Derived.Deep.RegionLaw
import Derived.Deep.RegionHeld3
set_option linter.unusedSimpArgs false
set_option linter.unusedVariables false
/- Package space: Share, lost, begun, maps, unmaps, fresh, shared, filled. -/
namespace Go.Proofs.Ytlbgnmcjdmdjpaa
open Go.RowKit Go.Shelf
attribute [local go_sem] Oper.semAt_some

def Mm.share (M : Mm) (a : Int) : Mm × Int := if M.isUsed a then (if M.R a.toNat = 1000 then (M, 2) else (M.setR a.toNat (M.R a.toNat + 1), 0)) else (M, 10)
theorem share_any {w : World} {f fb : Nat} {M : Mm} (hM : MemAt w f fb M) (a : Int) :
    Calls Try.prog 115 #[.pointer (some ⟨f, 0, none⟩), .int .i64 a] w fun e w' => e = .returned (.int .i64 (M.share a).2) ∧ MemAt w' f fb (M.share a).1 ∧ Same (· = fb) w w' := by
  cases hu : M.isUsed a with
  | false =>
    have hm : M.share a = (M, 10) := by simp [Mm.share, hu]
    rw [hm]
    go_enter Try.func115, Try.ntmps115
    go_wp2_with fail
    refine (used_bad hM a hu).mono ?_
    rintro e w' ⟨rfl, hs⟩
    go_wp2
    go_ret
    exact ⟨rfl, hM.same0 hs, hs.mono (fun _ _ h => h.elim)⟩
  | true =>
    obtain ⟨k, rfl, hk, hR⟩ := Mm.used_iff hu
    by_cases hz : M.R k = 1000
    · have hm : M.share k = (M, 2) := by simp [Mm.share, hu, hz]
      rw [hm]
      go_enter Try.func115, Try.ntmps115
      go_wp2_with fail
      refine (used_ok hM k hk hR).mono ?_
      rintro e w' ⟨rfl, hs⟩
      have hc := (hM.same0 hs).rc k hk
      rw [hz] at hc
      go_wp2
      go_ret
      exact ⟨rfl, hM.same0 hs, hs.mono (fun _ _ h => h.elim)⟩
    · have hm : M.share k = (M.setR k (M.R k + 1), 0) := by simp [Mm.share, hu, hz]
      rw [hm]
      have hb : (M.R k == 1000) = false := by simpa using hz
      have hr := hM.rR k hk
      go_enter Try.func115, Try.ntmps115
      go_wp2_with fail
      refine (used_ok hM k hk hR).mono ?_
      rintro e w' ⟨rfl, hs⟩
      have h' := hM.same0 hs
      have hc := h'.rc k hk
      have hzf := h'.fz (k * 65)
      have h2 := h'.setR hk (v := M.R k + 1) (by omega)
      have hs2 : Same (· = fb) w (w'.setCell ⟨fb, k * 65, none⟩ (.int .i64 (M.R k + 1))) := (hs.mono (fun _ _ h => h.elim)).setCell _ (.inr rfl)
      clear hz
      go_wp2
      go_ret
      exact ⟨rfl, h2, hs2⟩

set_option maxHeartbeats 400000 in
theorem lost1 (w : World) (b : Nat) (n : Int) (hc : w.cell? ⟨b, 0, none⟩ = some (.int .i64 n)) :
    Calls Try.prog 110 #[.slice (some ⟨b, 0, none⟩) 1 1] w fun e w' => e = .returned (.int .i64 (if n = 0 then 0 else 11)) ∧ w = w' := by
  by_cases h : n = 0
  · subst h
    go_enter Try.func110, Try.ntmps110
    go_wp2
    refine wp_loop_rounds 2 ?_
    rw [rounds_succ]
    go_wp2
    rw [rounds_succ]
    go_wp2
    go_ret
    exact ⟨by simp, rfl⟩
  · have hb : (n == 0) = false := by simpa using h
    rw [if_neg h]
    go_enter Try.func110, Try.ntmps110
    go_wp2
    refine wp_loop_rounds 1 ?_
    rw [rounds_succ]
    go_wp2
    all_goals
      go_ret
      exact ⟨rfl, rfl⟩
end Go.Proofs.Ytlbgnmcjdmdjpaa
/- Package space: what work is; begun. -/
namespace Go.Proofs.Ytlbgnmcjdmdjpaa
open Go.RowKit Go.Shelf
attribute [local go_sem] Oper.semAt_some

theorem step_append_run {P : Program} {ops : Array Oper} {o : Oper} {a : Act} {w w' : World} {K : Act → World → Prop} {Q : Exit → Act → World → Prop} {E : Prop} {v' : Value}
    (hg : o.guard = none) (s x : Operand) (t : TypeId) (hop : o.op = Op.call { callee := Callee.builtin Builtin.append, args := #[s, x], argTypes := #[t, t] }) (vs vx : Value) (hs : a.eval s = vs) (hx : a.eval x = vx)
    (hrun : (Builtin.append_ #[t, t] o.type #[vs, vx]).run P w = .ok v' w') (hK : K (a.put o.dst v') w') :
    if Region.wanted o (yielded ops a.tmps) = true then Oper.wp P o a w K Q else E := by
  simp only [Region.wanted, hg, if_true]
  unfold Oper.wp
  simp [execOp, hop, resolve, invoke, builtin, hs, hx, hrun, Result.andThen]
  exact hK
def Only (A : Act) (X : World) : Exit → Act → World → Prop
  | .normal, a, w => a = A ∧ w = X
  | _, _, _ => False
theorem wp_to {P : Program} {c : Code} {Q : Exit → Act → World → Prop} {a : Act} {w : World} (A : Act) (X : World) (h1 : c.wp P (Only A X) a w) (h2 : Q .normal A X) : c.wp P Q a w :=
  wp_mono h1 (by
    intro e a' w' h
    cases e with
    | normal => obtain ⟨rfl, rfl⟩ := h; exact h2
    | _ => exact h.elim)
theorem wpList_append_run {P : Program} {w w' : World} {ops : Array Oper} {rest : List Oper} {o : Oper} {a : Act} {Q : Exit → Act → World → Prop} {v' : Value}
    (hg : o.guard = none) (s x : Operand) (t : TypeId) (hop : o.op = Op.call { callee := Callee.builtin Builtin.append, args := #[s, x], argTypes := #[t, t] }) (vs vx : Value) (hs : a.eval s = vs) (hx : a.eval x = vx)
    (hrun : (Builtin.append_ #[t, t] o.type #[vs, vx]).run P w = .ok v' w') (hK : wpList P ops Q rest (a.put o.dst v') w') : wpList P ops Q (o :: rest) a w := by
  refine wpList_plain hg fun K hK' => ?_
  unfold Oper.wp
  simp [execOp, hop, resolve, invoke, builtin, hs, hx, hrun, Result.andThen]
  exact hK' _ _ hK

/-- What is to be undone: a root, a page. -/
inductive Und where
  | root
  | page (p : Int)

/-- A block of which no box of what is to be undone is one. -/
def Safe (w : World) (X : Nat → Prop) (k : Nat) : Prop := X k ∨ ∀ t n, w.shape? k = some (t, n) → t ≠ 24 ∧ t ≠ 3 ∧ t ≠ 144
def UndoOk (w : World) (wk f : Nat) (root : Int) (X : Nat → Prop) (u : Und) (v : Value) : Prop :=
  match u with
  | .root => ∃ b1 b2, v = .func (.func 109) #[] #[.pointer (some ⟨b1, 0, none⟩), .pointer (some ⟨b2, 0, none⟩)] ∧ w.cell? ⟨b1, 0, none⟩ = some (.pointer (some ⟨f, 0, none⟩)) ∧ w.cell? ⟨b2, 0, none⟩ = some (.int .i64 root) ∧
      w.shape? b1 = some (24, 1) ∧ w.shape? b2 = some (3, 1) ∧ ¬ X b1 ∧ ¬ X b2
  | .page p => In64 p ∧ ∃ b1 b2, v = .func (.func 125) #[] #[.pointer (some ⟨b1, 0, none⟩), .pointer (some ⟨b2, 0, none⟩)] ∧ w.cell? ⟨b1, 0, none⟩ = some (.pointer (some ⟨wk, 0, none⟩)) ∧ w.cell? ⟨b2, 0, none⟩ = some (.int .i64 p) ∧
      w.shape? b1 = some (144, 1) ∧ w.shape? b2 = some (3, 1) ∧ ¬ X b1 ∧ ¬ X b2
theorem UndoOk.same {w w' : World} {wk f : Nat} {root : Int} {X S : Nat → Prop} {u : Und} {v : Value} (h : UndoOk w wk f root X u v) (hs : Same S w w') (hS : ∀ k, S k → Safe w X k) : UndoOk w' wk f root X u v := by
  have key : ∀ b t, w.shape? b = some (t, 1) → (t = 24 ∨ t = 3 ∨ t = 144) → ¬ X b → ¬ S b := fun b t hb ht hx hk => by
    rcases hS b hk with h | h
    · exact hx h
    · have := h t 1 hb; rcases ht with rfl | rfl | rfl <;> simp_all
  cases u with
  | root =>
    obtain ⟨b1, b2, rfl, h1, h2, h3, h4, h5, h6⟩ := h
    exact ⟨b1, b2, rfl, hs.cell h1 (key _ _ h3 (by simp) h5), hs.cell h2 (key _ _ h4 (by simp) h6), (hs.shp _ (World.block_lt_of_cell? _ _ h1)).trans h3, (hs.shp _ (World.block_lt_of_cell? _ _ h2)).trans h4, h5, h6⟩
  | page p =>
    obtain ⟨hp, b1, b2, rfl, h1, h2, h3, h4, h5, h6⟩ := h
    exact ⟨hp, b1, b2, rfl, hs.cell h1 (key _ _ h3 (by simp) h5), hs.cell h2 (key _ _ h4 (by simp) h6), (hs.shp _ (World.block_lt_of_cell? _ _ h1)).trans h3, (hs.shp _ (World.block_lt_of_cell? _ _ h2)).trans h4, h5, h6⟩
theorem UndoOk.less {w : World} {wk f : Nat} {root : Int} {X Y : Nat → Prop} {u : Und} {v : Value} (h : UndoOk w wk f root X u v) (hY : ∀ k, Y k → k < w.heap.size → X k) : UndoOk w wk f root Y u v := by
  cases u with
  | root =>
    obtain ⟨b1, b2, rfl, h1, h2, h3, h4, h5, h6⟩ := h
    exact ⟨b1, b2, rfl, h1, h2, h3, h4, fun hk => h5 (hY _ hk (World.block_lt_of_cell? _ _ h1)), fun hk => h6 (hY _ hk (World.block_lt_of_cell? _ _ h2))⟩
  | page p =>
    obtain ⟨hp, b1, b2, rfl, h1, h2, h3, h4, h5, h6⟩ := h
    exact ⟨hp, b1, b2, rfl, h1, h2, h3, h4, fun hk => h5 (hY _ hk (World.block_lt_of_cell? _ _ h1)), fun hk => h6 (hY _ hk (World.block_lt_of_cell? _ _ h2))⟩

structure WorkAt (w : World) (base wk f : Nat) (root : Int) (X : Nat → Prop) (U : List Und) : Prop where
  c0 : w.cell? ⟨wk, 0, none⟩ = some (.pointer (some ⟨f, 0, none⟩))
  c1 : w.cell? ⟨wk, 1, none⟩ = some (.int .i64 root)
  c2 : ∃ (v : Value) (vs : List Value), w.cell? ⟨wk, 2, none⟩ = some v ∧ w.ownsRow base 1 1 v U.length vs ∧ ∀ (i : Nat) (u : Und), U[i]? = some u → ∃ x : Value, vs[i]? = some x ∧ UndoOk w wk f root X u x
  fz : ∀ o, w.frozen? ⟨wk, o, none⟩ = false
  sh : w.shape? wk = some (151, 3)
  hb : base ≤ wk
theorem WorkAt.lt {w : World} {base wk f : Nat} {root : Int} {X : Nat → Prop} {U : List Und} (h : WorkAt w base wk f root X U) : wk < w.heap.size := World.block_lt_of_cell? _ _ h.c0
/-- Blocks that work does not lean on. -/
def Free (w : World) (X : Nat → Prop) (k : Nat) : Prop := X k ∧ (∀ n, w.shape? k ≠ some (151, n)) ∧ (∀ n, w.shape? k ≠ some (1, n)) ∨ ∀ t n, w.shape? k = some (t, n) → t ≠ 24 ∧ t ≠ 3 ∧ t ≠ 144 ∧ t ≠ 151 ∧ t ≠ 1
theorem Free.safe {w : World} {X : Nat → Prop} {k : Nat} (h : Free w X k) : Safe w X k := by
  rcases h with h | h
  · exact .inl h.1
  · exact .inr fun t n ht => by have := h t n ht; exact ⟨this.1, this.2.1, this.2.2.1⟩
theorem Free.no151 {w : World} {X : Nat → Prop} {k n : Nat} (h : Free w X k) : w.shape? k ≠ some (151, n) := by
  rcases h with h | h
  · exact h.2.1 n
  · intro e; have := h _ _ e; simp_all
theorem Free.no1 {w : World} {X : Nat → Prop} {k n : Nat} (h : Free w X k) : w.shape? k ≠ some (1, n) := by
  rcases h with h | h
  · exact h.2.2 n
  · intro e; have := h _ _ e; simp_all
theorem WorkAt.same {w w' : World} {base wk f : Nat} {root : Int} {X S : Nat → Prop} {U : List Und} (h : WorkAt w base wk f root X U) (hs : Same S w w') (hS : ∀ k, S k → Free w X k) : WorkAt w' base wk f root X U := by
  have hwk : ¬ S wk := fun hk => (hS _ hk).no151 h.sh
  obtain ⟨v, vs, h1, h2, h3⟩ := h.c2
  refine ⟨hs.cell h.c0 hwk, hs.cell h.c1 hwk, ⟨v, vs, hs.cell h1 hwk, ownsRow_same h2 hs (fun g hg hk => by
    obtain ⟨_, _, n, hn⟩ := ownsRow_shape h2 hg
    exact (hS _ hk).no1 hn), fun i u hu => ?_⟩, fun o => (hs.frozen (a := ⟨wk, o, none⟩) h.lt hwk).trans (h.fz o), (hs.shp _ h.lt).trans h.sh, h.hb⟩
  obtain ⟨x, hx, hu⟩ := h3 i u hu
  exact ⟨x, hx, hu.same hs fun k hk => (hS k hk).safe⟩
theorem WorkAt.same0 {w w' : World} {base wk f : Nat} {root : Int} {X : Nat → Prop} {U : List Und} (h : WorkAt w base wk f root X U) (hs : Same (fun _ => False) w w') : WorkAt w' base wk f root X U := h.same hs (fun _ h => h.elim)
theorem free_135 {w : World} {X : Nat → Prop} {f fb : Nat} {M : Mm} (h : MemAt w f fb M) : Free w X fb := by
  obtain ⟨n, hn⟩ := h.sh
  refine .inr fun t m ht => ?_
  rw [hn] at ht
  cases ht
  simp
theorem WorkAt.less {w : World} {base wk f : Nat} {root : Int} {X Y : Nat → Prop} {U : List Und} (h : WorkAt w base wk f root X U) (hY : ∀ k, Y k → k < w.heap.size → X k) : WorkAt w base wk f root Y U := by
  obtain ⟨v, vs, h1, h2, h3⟩ := h.c2
  refine ⟨h.c0, h.c1, ⟨v, vs, h1, h2, fun i u hu => ?_⟩, h.fz, h.sh, h.hb⟩
  obtain ⟨x, hx, hu⟩ := h3 i u hu
  exact ⟨x, hx, hu.less hY⟩

/-- What work may change. -/
def Wf (fb base wk : Nat) (w : World) (k : Nat) : Prop := k = fb ∨ k = wk ∨ base ≤ k ∧ ∃ n, w.shape? k = some (1, n)
theorem Same.wtrans {A B C : World} {fb base wk : Nat} (h : Same (Wf fb base wk A) A B) (g : Same (Wf fb base wk B) B C) : Same (Wf fb base wk A) A C :=
  h.trans' g fun k hk hlt => by
    rcases hk with h1 | h1 | ⟨h0, n, h1⟩
    · exact .inl h1
    · exact .inr (.inl h1)
    · exact .inr (.inr ⟨h0, n, by rw [← h.shp k hlt]; exact h1⟩)
theorem Same.wf {A B : World} {fb base wk : Nat} (h : Same (fun _ => False) A B) : Same (Wf fb base wk A) A B := h.mono (fun _ _ h => h.elim)
theorem Same.wfb {A B : World} {fb base wk : Nat} (h : Same (· = fb) A B) : Same (Wf fb base wk A) A B := h.mono (fun _ _ h => .inl h)

theorem Try.under149 : Try.prog.underlying 149 = some (.slice 1) := by kernel_rfl
theorem info1 : (Try.prog.info? 1).map (fun i => (i.zero, i.size, i.bytes)) = some (some .nilFunc, 1, 8) := by kernel_rfl
end Go.Proofs.Ytlbgnmcjdmdjpaa
/- Package space: begun. -/
namespace Go.Proofs.Ytlbgnmcjdmdjpaa
open Go.RowKit Go.Shelf
attribute [local go_sem] Oper.semAt_some

/-- Work that has just been begun: what holds behind the append. -/
theorem work_new {w1 : World} {f base wk b1 b2 g cap : Nat} {r : Int} {X : Nat → Prop} (h0 : w1.cell? ⟨wk, 0, none⟩ = some (.pointer (some ⟨f, 0, none⟩))) (h1 : w1.cell? ⟨wk, 1, none⟩ = some (.int .i64 r)) (h2 : w1.cell? ⟨wk, 2, none⟩ = some (.slice (some ⟨g, 0, none⟩) 1 cap))
    (hf : ∀ o, w1.frozen? ⟨wk, o, none⟩ = false) (hsh : w1.shape? wk = some (151, 3)) (e1 : w1.cell? ⟨b1, 0, none⟩ = some (.pointer (some ⟨f, 0, none⟩))) (e2 : w1.cell? ⟨b2, 0, none⟩ = some (.int .i64 r)) (s1 : w1.shape? b1 = some (24, 1)) (s2 : w1.shape? b2 = some (3, 1))
    (x1 : ¬ X b1) (x2 : ¬ X b2) (hown : w1.ownsRow base 1 1 (.slice (some ⟨g, 0, none⟩) 1 cap) 1 [.func (.func 109) #[] #[.pointer (some ⟨b1, 0, none⟩), .pointer (some ⟨b2, 0, none⟩)]]) (hb : base ≤ wk) : WorkAt w1 base wk f r X [.root] := by
  refine ⟨h0, h1, ⟨_, _, h2, hown, fun i u hu => ?_⟩, hf, hsh, hb⟩
  cases i with
  | zero =>
    simp only [List.getElem?_cons_zero, Option.some.injEq] at hu
    subst hu
    exact ⟨_, rfl, b1, b2, rfl, e1, e2, s1, s2, x1, x2⟩
  | succ i => simp at hu

set_option maxHeartbeats 1600000 in
set_option maxRecDepth 8192 in
theorem begun_any {w : World} {f fb : Nat} {M : Mm} (hM : MemAt w f fb M) :
    Calls Try.prog 82 #[.pointer (some ⟨f, 0, none⟩)] w fun e w' => ∃ wk, w.heap.size ≤ wk ∧
      (((∀ i, i < M.n → 0 < M.R i) ∧ e = .returned (.tuple #[.pointer (some ⟨wk, 0, none⟩), .int .i64 11]) ∧ MemAt w' f fb M ∧ Same (fun _ => False) w w') ∨
      (∃ k, k < M.n ∧ M.R k ≤ 0 ∧ (∀ i, i < k → 0 < M.R i) ∧ e = .returned (.tuple #[.pointer (some ⟨wk, 0, none⟩), .int .i64 0]) ∧ MemAt w' f fb (M.alloc k) ∧ WorkAt w' w.heap.size wk f k (fun x => x < w.heap.size) [.root] ∧ Same (· = fb) w w')) := by
  have hlt := hM.lt
  have hra : Calls Try.prog 21 #[.pointer (some ⟨f, 0, none⟩)] (w.alloc (.cells #[.pointer (some ⟨f, 0, none⟩)] 24)) fun e w' => ∃ (r er : Int) (M' : Mm), e = .returned (.tuple #[.int .i64 r, .int .i64 er]) ∧ MemAt w' f fb M' ∧ Same (· = fb) (w.alloc (.cells #[.pointer (some ⟨f, 0, none⟩)] 24)) w' ∧
      ((er = 11 ∧ (∀ i, i < M.n → 0 < M.R i) ∧ M' = M ∧ Same (fun _ => False) (w.alloc (.cells #[.pointer (some ⟨f, 0, none⟩)] 24)) w') ∨ (er = 0 ∧ ∃ k : Nat, k < M.n ∧ M.R k ≤ 0 ∧ (∀ i, i < k → 0 < M.R i) ∧ r = k ∧ M' = M.alloc k)) := by
    refine (root_any (hM.same0 (same_alloc (.cells #[.pointer (some ⟨f, 0, none⟩)] 24)))).mono ?_
    rintro e w1 (⟨hall, rfl, hM1, hs1⟩ | ⟨k, hk, hRk, hleast, rfl, hM1, hs1⟩)
    · exact ⟨0, 11, M, rfl, hM1, hs1.mono (fun _ _ h => h.elim), .inl ⟨rfl, hall, rfl, hs1⟩⟩
    · exact ⟨k, 0, M.alloc k, rfl, hM1, hs1, .inr ⟨rfl, k, hk, hRk, hleast, rfl, rfl⟩⟩
  obtain ⟨i0, hi0, hz0, hz1', hz2⟩ := info_parts info1
  go_enter Try.func82, Try.ntmps82
  go_wp2_with fail
  refine hra.mono ?_
  rintro e w1 ⟨r, er, M', rfl, hM1, hs1, hcase⟩
  have b0 := hs1.cell (a := ⟨w.heap.size, 0, none⟩) (v := .pointer (some ⟨f, 0, none⟩)) (by simp) (by simp; omega)
  have sb0 : w1.shape? w.heap.size = some (24, 1) := (hs1.shp _ (by simp)).trans (by rw [shape_alloc]; simp)
  have z1 := World.block_lt_of_cell? _ _ b0
  simp only at z1
  have HC := Lib.hid hcase
  have HM1 := Lib.hid hM1
  have hs01 : Same (· = fb) w w1 := ((same_alloc _).mono (fun _ _ h => h.elim)).trans hs1
  have HS := Lib.hid hs01
  clear hcase hM1 hra hs01 hs1
  go_wp2_with (at_builtin; refine stop_intro ?_)
  unfold Stop
  refine wpList_append_same rfl _ _ 149 rfl w.heap.size 1 i0 .nilFunc 1 8 Try.under149 hi0 hz0 hz1' hz2 rfl (by decide) (.slice none 0 0) 0 [] rfl (World.ownsRow_nil _ _ _ _) ⟨w1.heap.size + 1 + 1, 0, none⟩ 1 1 _ rfl (by rfl) (fun j u hu => cells_new (by simp) hu) (by simp [Value.oneCell']) (by unfold maxLen; omega) (by omega) (by simp; omega) ?_
  intro v' w2 hown' hsame hfr
  obtain ⟨g', cap', rfl⟩ := own_row_succ hown'
  have hs2 : Same (fun _ => False) (((w1.alloc (.cells #[.int .i64 r] 3)).alloc (.cells #[.pointer (some ⟨f, 0, none⟩), .int .i64 r, .slice none 0 0] 151)).alloc (.cells #[.func (.func 109) #[] #[.pointer (some ⟨w.heap.size, 0, none⟩), .pointer (some ⟨w1.heap.size, 0, none⟩)]] 1)) w2 := hsame.mono (fun k _ h => by simp [Value.ownBlock] at h)
  have hs12 : Same (fun _ => False) w1 w2 := (((same_alloc _).alloc _).alloc _).trans hs2
  have c0 : w2.cell? ⟨w1.heap.size + 1, 0, none⟩ = some (.pointer (some ⟨f, 0, none⟩)) := hs2.cell (by simp [go_sem]) (by simp)
  have c1 : w2.cell? ⟨w1.heap.size + 1, 1, none⟩ = some (.int .i64 r) := hs2.cell (by simp [go_sem]) (by simp)
  have c2 : w2.cell? ⟨w1.heap.size + 1, 2, none⟩ = some (.slice none 0 0) := hs2.cell (by simp [go_sem]) (by simp)
  have c3 : w2.cell? ⟨w1.heap.size, 0, none⟩ = some (.int .i64 r) := hs2.cell (by simp [go_sem]) (by simp)
  have cf : ∀ o, w2.frozen? ⟨w1.heap.size + 1, o, none⟩ = false := fun o => (hs2.frozen (a := ⟨w1.heap.size + 1, o, none⟩) (by simp) (by simp)).trans (by simp [go_sem])
  have csh : w2.shape? (w1.heap.size + 1) = some (151, 3) := (hs2.shp _ (by simp only [World.size_alloc]; omega)).trans (by simp only [shape_alloc, World.size_alloc]; rw [if_neg (by omega)]; rfl)
  have csh3 : w2.shape? w1.heap.size = some (3, 1) := (hs2.shp _ (by simp only [World.size_alloc]; omega)).trans (by simp only [shape_alloc, World.size_alloc]; rw [if_neg (by omega), if_neg (by omega)]; rfl)
  have b2 := hs12.cell b0 (by simp)
  have csb : w2.shape? w.heap.size = some (24, 1) := (hs12.shp _ z1).trans sb0
  have cfz := cf 2
  have gne : g' ≠ w1.heap.size + 1 := fun e => by
    obtain ⟨_, _, n, hn⟩ := ownsRow_shape hown' (g := g') rfl
    rw [e, csh] at hn
    cases hn
  have HO := Lib.hid hown'
  have HF := Lib.hid (And.intro cf (And.intro csh (And.intro csh3 csb)))
  have HS12 := Lib.hid hs12
  have z2 := hs2.size
  simp only [World.size_alloc] at z2
  clear hown' hsame hfr hs2 cf csh csh3 csb hs12
  go_wp2_with fail
  refine (lost1 _ _ er (by simp [go_sem])).mono ?_
  rintro e w3 ⟨rfl, hw3⟩
  obtain ⟨hcf, hcsh, hcsh3, hcsb⟩ := HF.out
  obtain ⟨W3, hW3⟩ : ∃ W3, W3 = w2.setCell ⟨w1.heap.size + 1, 2, none⟩ (.slice (some ⟨g', 0, none⟩) 1 cap') := ⟨_, rfl⟩
  have hsW : Same (· = w1.heap.size + 1) w2 W3 := by rw [hW3]; exact (Same.refl _ _).setCell _ (.inr rfl)
  have hk3 : Same (fun _ => False) W3 w3 := by rw [← hw3, ← hW3]; exact same_alloc _
  have hs23 : Same (· = w1.heap.size + 1) w2 w3 := hsW.trans (hk3.mono (fun _ _ h => h.elim))
  have hMem := (HM1.out.same0 HS12.out).same hs23 (by have := HM1.out.lt; omega) (by have := HM1.out.lt; omega)
  have hWork : WorkAt w3 w.heap.size (w1.heap.size + 1) f r (fun x => x < w.heap.size) [.root] := by
    refine work_new (wk := w1.heap.size + 1) (b1 := w.heap.size) (b2 := w1.heap.size) (g := g') (cap := cap') ?_ ?_ ?_ ?_ ((hs23.shp _ (by omega)).trans hcsh) (hs23.cell b2 (by simp; omega)) (hs23.cell c3 (by simp)) ((hs23.shp _ (by omega)).trans hcsb) ((hs23.shp _ (by omega)).trans hcsh3) (by simp) (by simp; omega) ?_ (by omega)
    · refine hk3.cell ?_ (by simp)
      rw [hW3, World.cell?_setCell_other _ _ _ _ (by simp)]; exact c0
    · refine hk3.cell ?_ (by simp)
      rw [hW3, World.cell?_setCell_other _ _ _ _ (by simp)]; exact c1
    · refine hk3.cell ?_ (by simp)
      rw [hW3]; exact World.cell?_setCell_same _ _ _ c2
    · intro o
      rw [hk3.frozen (a := ⟨w1.heap.size + 1, o, none⟩) (by rw [hW3]; simp; omega) (by simp), hW3, World.frozen?_setCell]
      exact hcf o
    · exact ownsRow_same HO.out hs23 (fun g hg e => by simp only [Value.ownBlock, Option.some.injEq] at hg; omega)
  have hS03 : Same (· = fb) w w3 := (HS.out.trans' (HS12.out.mono (T := fun k => k = fb) (fun _ _ h => h.elim)) (fun _ h _ => h)).trans' (hs23.mono (T := fun k => k = fb ∨ w.heap.size ≤ k) (fun k _ h => by omega)) (fun k hk _ => by omega)
  have HE := Lib.hid (And.intro hMem (And.intro hWork hS03))
  have hSn : Same (fun _ => False) w w1 → Same (fun _ => False) w w3 := fun h => (h.trans HS12.out).trans' (hs23.mono (T := fun k => w.heap.size ≤ k) (fun k _ h => by omega)) (fun k hk _ => by omega)
  have HN := Lib.hid hSn
  clear hMem hWork hS03 hSn hs23 hk3 hsW hW3 hw3 c0 c1 c2 c3 b2
  obtain ⟨le, hle⟩ : ∃ le : Int, le = if er = 0 then 0 else 11 := ⟨_, rfl⟩
  rw [← hle]
  have HL := Lib.hid hle
  clear hle
  go_wp2
  go_ret2
  obtain ⟨hMem, hWork, hS03⟩ := HE.out
  refine ⟨w1.heap.size + 1, by omega, ?_⟩
  rcases HC.out with ⟨rfl, hall, rfl, hsA⟩ | ⟨rfl, k, hk, hRk, hleast, rfl, rfl⟩
  · have hl := HL.out
    simp only [Int.reduceEq, if_false] at hl
    rw [hl]
    exact .inl ⟨hall, rfl, hMem, HN.out ((same_alloc _).trans hsA)⟩
  · have hl := HL.out
    simp only [if_true] at hl
    rw [hl]
    exact .inr ⟨k, hk, hRk, hleast, rfl, hMem, hWork, hS03⟩
end Go.Proofs.Ytlbgnmcjdmdjpaa
/- Package space: one more page to be undone (no walk). -/
namespace Go.Proofs.Ytlbgnmcjdmdjpaa
open Go.RowKit Go.Shelf
attribute [local go_sem] Oper.semAt_some

theorem own_slice {w : World} {base : Nat} {e : TypeId} {size : Nat} {v : Value} {n : Nat} {xs : List Value} (h : w.ownsRow base e size v n xs) : ∃ a cap, v = .slice a n cap := by
  rcases h.2 with ⟨rfl, rfl⟩ | ⟨g', cap, cur, rfl, _⟩
  · exact ⟨none, 0, rfl⟩
  · exact ⟨_, cap, rfl⟩

theorem work_push {w1 : World} {f fb base wk b1 b2 : Nat} {M : Mm} {root page : Int} {X : Nat → Prop} {U : List Und} (hW : WorkAt w1 base wk f root X U) (hM : MemAt w1 f fb M) (hU : U.length ≤ 1000) (hp : In64 page)
    (e0 : w1.cell? ⟨b1, 0, none⟩ = some (.pointer (some ⟨wk, 0, none⟩))) (e1 : w1.cell? ⟨b2, 0, none⟩ = some (.int .i64 page)) (t0 : w1.shape? b1 = some (144, 1)) (t1 : w1.shape? b2 = some (3, 1)) (x0 : ¬ X b1) (x1 : ¬ X b2) :
    ∃ va vc g' cap' w2, w1.cell? ⟨wk, 2, none⟩ = some (.slice va U.length vc) ∧
      (Builtin.append_ #[149, 149] 149 #[.slice va U.length vc, .slice (some ⟨w1.heap.size, 0, none⟩) 1 1]).run Try.prog (w1.drew.alloc (.cells #[.func (.func 125) #[] #[.pointer (some ⟨b1, 0, none⟩), .pointer (some ⟨b2, 0, none⟩)]] 1)) = .ok (.slice (some ⟨g', 0, none⟩) (U.length + 1) cap') w2 ∧
      w2.cell? ⟨wk, 0, none⟩ = some (.pointer (some ⟨f, 0, none⟩)) ∧ w2.cell? ⟨wk, 2, none⟩ = some (.slice va U.length vc) ∧ w2.frozen? ⟨wk, 2, none⟩ = false ∧ w2.cell? ⟨b1, 0, none⟩ = some (.pointer (some ⟨wk, 0, none⟩)) ∧
      MemAt (w2.setCell ⟨wk, 2, none⟩ (.slice (some ⟨g', 0, none⟩) (U.length + 1) cap')) f fb M ∧ WorkAt (w2.setCell ⟨wk, 2, none⟩ (.slice (some ⟨g', 0, none⟩) (U.length + 1) cap')) base wk f root X (U ++ [.page page]) ∧
      Same (Wf fb base wk w1) w1 (w2.setCell ⟨wk, 2, none⟩ (.slice (some ⟨g', 0, none⟩) (U.length + 1) cap')) := by
  have hne : wk ≠ fb := fun e => by
    obtain ⟨n, hn⟩ := hM.sh
    rw [← e, hW.sh] at hn
    cases hn
  obtain ⟨v, vs, c2, hown, hund⟩ := hW.c2
  obtain ⟨va, vc, rfl⟩ := own_slice hown
  have hwk1 : wk < w1.heap.size := hW.lt
  have hz2 := hW.fz 2
  obtain ⟨i0, hi0, hz0, hz1', hz2'⟩ := info_parts info1
  obtain ⟨news, hnews⟩ : ∃ l : List Value, l = [.func (.func 125) #[] #[.pointer (some ⟨b1, 0, none⟩), .pointer (some ⟨b2, 0, none⟩)]] := ⟨_, rfl⟩
  obtain ⟨B, hB⟩ : ∃ B, B = w1.drew.alloc (.cells #[.func (.func 125) #[] #[.pointer (some ⟨b1, 0, none⟩), .pointer (some ⟨b2, 0, none⟩)]] 1) := ⟨_, rfl⟩
  have hsB : Same (fun _ => False) w1 B := by rw [hB]; exact ((Same.refl _ _).drew).alloc _
  obtain ⟨v', w2, hrun, hown2, hs2, hfr⟩ := run_append_same (P := Try.prog) B base 149 149 1 i0 .nilFunc 1 8 Try.under149 hi0 hz0 hz1' hz2' rfl (by decide) (.slice va U.length vc) U.length vs (ownsRow_same hown hsB (by simp)) ⟨w1.heap.size, 0, none⟩ 1 1 news (by rw [hnews]; rfl) (fun j u hu => by rw [hB]; exact cells_new (by rfl) (by rw [← hu, hnews])) (by rw [hnews]; simp [Value.oneCell']) (by unfold maxLen; omega) (by omega) (by have := hW.hb; have := hsB.size; omega)
  obtain ⟨g', cap', rfl⟩ := own_row_succ hown2
  have hnb2 : ∀ k, (Value.slice va U.length vc).ownBlock = some k → base ≤ k ∧ ∃ n, w1.shape? k = some (1, n) := fun k h => by
    obtain ⟨hb, _, n, hn⟩ := ownsRow_shape hown h
    exact ⟨hb, n, hn⟩
  have hnb : ∀ b, ¬ (∃ n, w1.shape? b = some (1, n)) → ¬ (Value.slice va U.length vc).ownBlock = some b := fun b hb h => hb (hnb2 b h).2
  have q0 := hs2.cell (hsB.cell hW.c0 (by simp)) (hnb _ (by rw [hW.sh]; simp))
  have q1 := hs2.cell (hsB.cell hW.c1 (by simp)) (hnb _ (by rw [hW.sh]; simp))
  have q2 := hs2.cell (hsB.cell c2 (by simp)) (hnb _ (by rw [hW.sh]; simp))
  have q3 := hs2.cell (hsB.cell e0 (by simp)) (hnb _ (by rw [t0]; simp))
  have q4 := hs2.cell (hsB.cell e1 (by simp)) (hnb _ (by rw [t1]; simp))
  have qz := fun o => (hs2.frozen (a := ⟨wk, o, none⟩) (by have := hsB.size; show wk < _; omega) (hnb _ (by rw [hW.sh]; simp))).trans ((hsB.frozen (a := ⟨wk, o, none⟩) hwk1 (by simp)).trans (hW.fz o))
  refine ⟨va, vc, g', cap', w2, c2, ?_, q0, q2, qz 2, q3, ?_⟩
  · rw [← hB]; exact hrun
  obtain ⟨C, hC⟩ : ∃ C, C = w2.setCell ⟨wk, 2, none⟩ (.slice (some ⟨g', 0, none⟩) (U.length + 1) cap') := ⟨_, rfl⟩
  rw [← hC]
  have hsBC : Same (Wf fb base wk w1) w1 w2 := (hsB.wf).trans' (hs2.mono (T := Wf fb base wk w1) (fun k hk h => .inr (.inr (hnb2 k h)))) (fun k hk _ => hk)
  have hsC : Same (· = wk) w2 C := by rw [hC]; exact (Same.refl _ _).setCell _ (.inr rfl)
  have hwk2 : wk < w2.heap.size := by have := hsBC.size; omega
  have hg'k : g' ≠ wk := fun e => by
    obtain ⟨_, _, n, hn⟩ := ownsRow_shape hown2 (g := g') rfl
    rw [e, hsBC.shp _ hwk1, hW.sh] at hn
    cases hn
  have hs1C : Same (Wf fb base wk w1) w1 C := hsBC.trans' (hsC.mono (T := Wf fb base wk w1) (fun k _ h => .inr (.inl h))) (fun k hk _ => hk)
  have hMC : MemAt C f fb M := by
    refine (((hM.same0 hsB).same hs2 (fun h => ?_) (fun h => ?_)).same hsC (fun h => ?_) (fun h => hne h.symm))
    · obtain ⟨_, n, hn⟩ := hnb2 _ h
      obtain ⟨m, hm⟩ := hM.sf
      rw [hm] at hn; cases hn
    · obtain ⟨_, n, hn⟩ := hnb2 _ h
      obtain ⟨m, hm⟩ := hM.sh
      rw [hm] at hn; cases hn
    · obtain ⟨m, hm⟩ := hM.sf
      rw [h, hW.sh] at hm; cases hm
  have hsf : ∀ k, (Value.slice va U.length vc).ownBlock = some k → Safe B X k := fun k h => by
    obtain ⟨_, n, hn⟩ := hnb2 k h
    refine .inr fun t m ht => ?_
    have hk1 : k < w1.heap.size := (ownsRow_shape hown h).2.1
    rw [hsB.shp k hk1, hn] at ht
    cases ht
    simp
  have hsk : ∀ k, k = wk → Safe w2 X k := fun k h => by
    subst h
    refine .inr fun t m ht => ?_
    rw [hsBC.shp _ hwk1, hW.sh] at ht
    cases ht
    simp
  have hlt0 := World.block_lt_of_cell? _ _ q3
  have hlt1 := World.block_lt_of_cell? _ _ q4
  have b1wk : b1 ≠ wk := fun e => by rw [e, hW.sh] at t0; cases t0
  have b2wk : b2 ≠ wk := fun e => by rw [e, hW.sh] at t1; cases t1
  refine ⟨hMC, ⟨?_, ?_, ⟨_, vs ++ news, by rw [hC]; exact World.cell?_setCell_same _ _ _ q2, ?_, fun i u hu => ?_⟩, fun o => ?_, ?_, hW.hb⟩, hs1C⟩
  · rw [hC, World.cell?_setCell_other _ _ _ _ (by simp)]; exact q0
  · rw [hC, World.cell?_setCell_other _ _ _ _ (by simp)]; exact q1
  · rw [List.length_append, List.length_singleton]
    exact ownsRow_same hown2 hsC (fun g hg e => by simp only [Value.ownBlock, Option.some.injEq] at hg; omega)
  · rcases Nat.lt_trichotomy i U.length with h | h | h
    · rw [List.getElem?_append_left h] at hu
      obtain ⟨x, hx, hok⟩ := hund i u hu
      refine ⟨x, ?_, ((hok.same hsB (fun _ h => h.elim)).same hs2 hsf).same hsC hsk⟩
      rw [List.getElem?_append_left (by rw [hown.1]; omega)]; exact hx
    · subst h
      rw [List.getElem?_append_right (Nat.le_refl _)] at hu
      simp only [Nat.sub_self, List.getElem?_cons_zero, Option.some.injEq] at hu
      subst hu
      have hvl : vs.length = U.length := by rw [hown.1]; omega
      refine ⟨_, by rw [List.getElem?_append_right (by omega), hnews, hvl, Nat.sub_self]; rfl, hp, b1, b2, rfl, hsC.cell q3 b1wk, hsC.cell q4 b2wk, ?_, ?_, x0, x1⟩
      · exact (hsC.shp _ hlt0).trans ((hsBC.shp _ (World.block_lt_of_cell? _ _ e0)).trans t0)
      · exact (hsC.shp _ hlt1).trans ((hsBC.shp _ (World.block_lt_of_cell? _ _ e1)).trans t1)
    · rw [List.getElem?_eq_none (by rw [List.length_append, List.length_singleton]; omega)] at hu
      cases hu
  · rw [hC, World.frozen?_setCell]; exact qz o
  · exact (hsC.shp _ hwk2).trans ((hsBC.shp _ hwk1).trans hW.sh)
end Go.Proofs.Ytlbgnmcjdmdjpaa
/- Package space: maps, unmaps. -/
namespace Go.Proofs.Ytlbgnmcjdmdjpaa
open Go.RowKit Go.Shelf
attribute [local go_sem] Oper.semAt_some

/-- A page mapped to a frame whose count is already right: without room the frame is freed. -/
def Mm.maps (M : Mm) (root page frame flags : Int) : Mm × Int :=
  if (M.map root page frame flags).2 = 0 then ((M.map root page frame flags).1, 0) else ((M.map root page frame flags).1.free frame, 11)
def Mm.unmaps (M : Mm) (root page : Int) : Mm :=
  if (M.unmap root page).2.2 = 0 then (M.unmap root page).1.free (M.unmap root page).2.1 else (M.unmap root page).1

set_option maxHeartbeats 1600000 in
set_option maxRecDepth 8192 in
theorem unmaps_any {w : World} {f fb wk : Nat} {M : Mm} {root : Int} (hM : MemAt w f fb M) (h0 : w.cell? ⟨wk, 0, none⟩ = some (.pointer (some ⟨f, 0, none⟩))) (h1 : w.cell? ⟨wk, 1, none⟩ = some (.int .i64 root)) (hne : wk ≠ fb) (page : Int) (hp : In64 page) :
    Calls Try.prog 88 #[.pointer (some ⟨wk, 0, none⟩), .int .i64 page] w fun e w' => e = .returned (.tuple #[]) ∧ MemAt w' f fb (M.unmaps root page) ∧ Same (· = fb) w w' := by
  obtain ⟨R, hR⟩ : ∃ R, R = M.unmaps root page := ⟨_, rfl⟩
  rw [← hR]
  have hun := unmap_any (hM.same0 ((Same.refl (fun _ => False) w).drew)) root page hp
  obtain ⟨⟨M', fr, er⟩, hU⟩ : ∃ x, x = M.unmap root page := ⟨_, rfl⟩
  have hm : R = if er = 0 then M'.free fr else M' := by rw [hR]; unfold Mm.unmaps; rw [← hU]
  rw [← hU] at hun
  simp only at hun
  have HM := Lib.hid hm
  clear hm hR hU
  go_enter Try.func88, Try.ntmps88
  go_wp2_with fail
  go_region_held3 (fun W => W.cell? ⟨wk, 0, none⟩ = some (.pointer (some ⟨f, 0, none⟩)) ∧ W.cell? ⟨wk, 1, none⟩ = some (.int .i64 root)) (first | go_keep | exact ⟨hs1.cell h0 hne, hs1.cell h1 hne⟩) (first | (go_at_call 27; refine hun.mono ?_; rintro e w1 ⟨rfl, hM1, hs1⟩))
  have b0 := hs1.cell (show w.drew.cell? _ = _ from h0) hne
  have b1 := hs1.cell (show w.drew.cell? _ = _ from h1) hne
  have hs01 : Same (· = fb) w w1 := (((Same.refl (fun _ => False) w).drew).mono (fun _ _ h => h.elim)).trans hs1
  have hfr := free_any hM1 fr
  have HS := Lib.hid hs01
  have H1 := Lib.hid hM1
  clear hun hM1 hs1 hs01 h0 h1
  by_cases he : er = 0
  · subst he
    go_wp2_with fail
    refine hfr.mono ?_
    rintro e w2 ⟨rfl, hM2, hs2⟩
    generalize (if M'.isUsed fr = true then (0 : Int) else 10) = fe
    clear hfr
    go_wp2
    go_end0
    have h := HM.out
    simp only [if_true] at h
    rw [h]
    exact ⟨rfl, hM2, HS.out.trans hs2⟩
  · have hb : (er == 0) = false := by simpa using he
    have h := HM.out
    rw [if_neg he] at h
    have HH := Lib.hid h
    clear h hfr he
    go_wp2
    go_end0
    rw [HH.out]
    exact ⟨rfl, H1.out, HS.out⟩

set_option maxHeartbeats 1600000 in
set_option maxRecDepth 8192 in
theorem maps_any {w : World} {f fb base wk : Nat} {M : Mm} {root : Int} {X : Nat → Prop} {U : List Und} (hM : MemAt w f fb M) (hW : WorkAt w base wk f root X U) (hX : ∀ k, X k → k < w.heap.size) (hU : U.length ≤ 1000) (page frame flags : Int) (hp : In64 page) :
    Calls Try.prog 113 #[.pointer (some ⟨wk, 0, none⟩), .int .i64 page, .int .i64 frame, .int .i64 flags] w fun e w' => e = .returned (.int .i64 (M.maps root page frame flags).2) ∧ MemAt w' f fb (M.maps root page frame flags).1 ∧
      WorkAt w' base wk f root X (if (M.maps root page frame flags).2 = 0 then U ++ [.page page] else U) ∧ Same (Wf fb base wk w) w w' := by
  obtain ⟨R, hR⟩ : ∃ R, R = M.maps root page frame flags := ⟨_, rfl⟩
  rw [← hR]
  obtain ⟨U', hU'⟩ : ∃ U', U' = if R.2 = 0 then U ++ [.page page] else U := ⟨_, rfl⟩
  rw [← hU']
  have HU' := Lib.hid hU'
  clear hU'
  have hlt := hM.lt
  have hne : wk ≠ fb := fun e => by
    obtain ⟨n, hn⟩ := hM.sh
    rw [← e, hW.sh] at hn
    cases hn
  have hsA : Same (fun _ => False) w (((w.alloc (.cells #[.pointer (some ⟨wk, 0, none⟩)] 144)).alloc (.cells #[.int .i64 page] 3))) := (same_alloc _).alloc _
  have hmp := map_any (hM.same0 hsA.drew) root page frame flags hp
  obtain ⟨⟨M', er⟩, hU⟩ : ∃ x, x = M.map root page frame flags := ⟨_, rfl⟩
  have hm : R = if er = 0 then (M', 0) else (M'.free frame, 11) := by rw [hR]; unfold Mm.maps; rw [← hU]
  rw [← hU] at hmp
  simp only at hmp
  have HM := Lib.hid hm
  clear hm hR hU
  have c0 := hsA.cell hW.c0 (by simp)
  have c1 := hsA.cell hW.c1 (by simp)
  obtain ⟨A, hA⟩ : ∃ A, A = (((w.alloc (.cells #[.pointer (some ⟨wk, 0, none⟩)] 144)).alloc (.cells #[.int .i64 page] 3))) := ⟨_, rfl⟩
  have a0 : A.cell? ⟨w.heap.size, 0, none⟩ = some (.pointer (some ⟨wk, 0, none⟩)) := by rw [hA]; simp [go_sem]
  have a1 : A.cell? ⟨w.heap.size + 1, 0, none⟩ = some (.int .i64 page) := by rw [hA]; simp [go_sem]
  have s0 : A.shape? w.heap.size = some (144, 1) := by rw [hA]; simp only [shape_alloc, World.size_alloc]; rw [if_neg (by omega)]; rfl
  have s1 : A.shape? (w.heap.size + 1) = some (3, 1) := by rw [hA]; simp only [shape_alloc, World.size_alloc]; rfl
  rw [← hA] at hsA hmp c0 c1
  have hzA : A.heap.size = w.heap.size + 2 := by rw [hA]; simp
  go_enter Try.func113, Try.ntmps113
  go_wp2_with fail
  rw [← hA]
  clear hA
  go_still_tail 11, (by kernel_rfl)
  go_wp2_with fail
  refine hmp.mono ?_
  rintro e w1 ⟨rfl, hM1, hs1⟩
  have nA : fb < A.heap.size := by have := hsA.size; omega
  have hwA := World.block_lt_of_cell? _ _ a1
  simp only at hwA
  have d0 : w1.cell? ⟨wk, 0, none⟩ = some (.pointer (some ⟨f, 0, none⟩)) := hs1.cell (show A.drew.cell? _ = _ from c0) hne
  have e0 : w1.cell? ⟨w.heap.size, 0, none⟩ = some (.pointer (some ⟨wk, 0, none⟩)) := hs1.cell (show A.drew.cell? _ = _ from a0) (by simp; omega)
  have e1 : w1.cell? ⟨w.heap.size + 1, 0, none⟩ = some (.int .i64 page) := hs1.cell (show A.drew.cell? _ = _ from a1) (by simp; omega)
  have hs01 : Same (· = fb) w w1 := (hsA.drew.mono (fun _ _ h => h.elim)).trans hs1
  have hW1 : WorkAt w1 base wk f root X U := (hW.same0 hsA.drew).same hs1 (fun k hk => by subst hk; exact free_135 (hM.same0 hsA.drew))
  have HW1 := Lib.hid hW1
  have t0 : w1.shape? w.heap.size = some (144, 1) := (hs1.shp _ (by show _ < A.heap.size; omega)).trans s0
  have t1 : w1.shape? (w.heap.size + 1) = some (3, 1) := (hs1.shp _ (by show _ < A.heap.size; omega)).trans s1
  have HT := Lib.hid (And.intro t0 (And.intro t1 (And.intro hs01 hM1)))
  have hz1 := hs1.size
  have hz1' : A.heap.size ≤ w1.heap.size := hz1
  clear hmp hs1 hM1 hs01 hW1 t0 t1 c0 c1 a0 a1 s0 s1 hW hsA
  by_cases he : er = 0
  · subst he
    obtain ⟨t0, t1, hs01, hM1⟩ := HT.out
    obtain ⟨va, vc, g', cap', w2, c2, hrun, q0, q2, qz, q3, hMC, hWC, hsC⟩ := work_push (b1 := w.heap.size) (b2 := w.heap.size + 1) HW1.out hM1 hU hp e0 e1 t0 t1 (fun h => by have := hX _ h; omega) (fun h => by have := hX _ h; omega)
    have hwk1 : wk < w1.heap.size := HW1.out.lt
    have hwh : w.heap.size < w1.heap.size := by omega
    have H2 := Lib.hid (And.intro hMC (And.intro hWC (hs01.wfb.wtrans hsC)))
    clear hMC hWC hsC hs01 hM1 t0 t1
    go_wp2_with fail
    apply wp_to (X := w2.setCell ⟨wk, 2, none⟩ (.slice (some ⟨g', 0, none⟩) (U.length + 1) cap'))
    case h1 =>
      go_region_law (refine step_append_run rfl (.tmp 34) (.tmp 36) 149 rfl _ _ rfl rfl hrun ?_)
      all_goals exact ⟨rfl, rfl⟩
    clear hrun
    go_wp2
    go_ret
    have h := HM.out
    have hu := HU'.out
    simp only [if_true] at h
    rw [h] at hu ⊢
    simp only [if_true] at hu
    rw [hu]
    exact ⟨rfl, H2.out⟩
  · have hb : (er == 0) = false := by simpa using he
    have h := HM.out
    rw [if_neg he] at h
    have hfr := free_any HT.out.2.2.2 frame
    have HH := Lib.hid h
    clear h he HM
    go_wp2_with fail
    refine hfr.mono ?_
    rintro e w2 ⟨rfl, hM2, hs2⟩
    have hW2 := HW1.out.same hs2 (fun k hk => by subst hk; exact free_135 HT.out.2.2.2)
    have hs02 := HT.out.2.2.1.wfb.wtrans (hs2.wfb (base := base) (wk := wk))
    have H2 := Lib.hid (And.intro hM2 (And.intro hW2 hs02))
    generalize (if M'.isUsed frame = true then (0 : Int) else 10) = fe
    clear hfr hM2 hs2 hW2 hs02
    go_wp2
    go_ret
    have hu := HU'.out
    rw [HH.out] at hu ⊢
    simp only [Int.reduceEq, if_false] at hu
    rw [hu]
    exact ⟨rfl, H2.out⟩
end Go.Proofs.Ytlbgnmcjdmdjpaa
/- Package space: fresh, shared, filled, of. -/
namespace Go.Proofs.Ytlbgnmcjdmdjpaa
open Go.RowKit Go.Shelf
attribute [local go_sem] Oper.semAt_some

def Mm.fresh (M : Mm) (root page flags : Int) : Mm × Int × Int := match M.least with
  | none => (M, 0, 11)
  | some k => (((M.alloc k).maps root page k flags).1, k, ((M.alloc k).maps root page k flags).2)
def Mm.shared (M : Mm) (root page frame flags : Int) : Mm × Int := if (M.share frame).2 = 0 then (M.share frame).1.maps root page frame flags else ((M.share frame).1, 11)
/-- Bytes written to a frame in use. -/
def Mm.write (M : Mm) (k : Int) (s : ByteArray) : Mm := if M.isUsed k then M.wr k.toNat 0 s else M
def Mm.filled (M : Mm) (root page flags : Int) (s : ByteArray) : Mm × Int := if (M.fresh root page flags).2.2 = 0 then ((M.fresh root page flags).1.write (M.fresh root page flags).2.1 s, if (M.fresh root page flags).1.isUsed (M.fresh root page flags).2.1 then 0 else 10) else ((M.fresh root page flags).1, (M.fresh root page flags).2.2)
def pushed (U : List Und) (page e : Int) : List Und := if e = 0 then U ++ [.page page] else U

theorem write_any {w : World} {f fb : Nat} {M : Mm} (h : MemAt w f fb M) (k : Int) (s : ByteArray) (hl : s.size ≤ 64) :
    Calls Try.prog 80 #[.pointer (some ⟨f, 0, none⟩), .int .i64 k, .int .i64 0, .string s] w fun e w' => e = .returned (.int .i64 (if M.isUsed k then 0 else 10)) ∧ MemAt w' f fb (M.write k s) ∧ Same (· = fb) w w' := by
  cases hu : M.isUsed k with
  | false =>
    refine (write_bad h k 0 s hu).mono ?_
    rintro e w' ⟨rfl, hs⟩
    exact ⟨by simp, by simp only [Mm.write, hu, Bool.false_eq_true, if_false]; exact h.same0 hs, hs.mono (fun _ _ h => h.elim)⟩
  | true =>
    obtain ⟨k, rfl, hk, hR⟩ := Mm.used_iff hu
    refine (write_ok h k 0 s hk hR (by omega) (by omega)).mono ?_
    rintro e w' ⟨rfl, hM, hs⟩
    exact ⟨by simp, by simp only [Mm.write, hu, Int.toNat_natCast, if_true]; exact hM, hs⟩

theorem fresh_any {w : World} {f fb base wk : Nat} {M : Mm} {root : Int} {X : Nat → Prop} {U : List Und} (hM : MemAt w f fb M) (hW : WorkAt w base wk f root X U) (hX : ∀ k, X k → k < w.heap.size) (hU : U.length ≤ 1000) (page flags : Int) (hp : In64 page) :
    Calls Try.prog 87 #[.pointer (some ⟨wk, 0, none⟩), .int .i64 page, .int .i64 flags] w fun e w' => e = .returned (.tuple #[.int .i64 (M.fresh root page flags).2.1, .int .i64 (M.fresh root page flags).2.2]) ∧ MemAt w' f fb (M.fresh root page flags).1 ∧
      WorkAt w' base wk f root X (pushed U page (M.fresh root page flags).2.2) ∧ Same (Wf fb base wk w) w w' := by
  obtain ⟨R, hR⟩ : ∃ R, R = M.fresh root page flags := ⟨_, rfl⟩
  rw [← hR]
  have hra := alloc_any hM
  have d0 := hW.c0
  have HW := Lib.hid hW
  have HR := Lib.hid hR
  clear hR hW
  go_enter Try.func87, Try.ntmps87
  go_wp2_with fail
  refine hra.mono ?_
  rintro e w1 (⟨hall, rfl, hM1, hs1⟩ | ⟨k, hk, hRk, hleast, rfl, hM1, hs1⟩)
  · have hr := HR.out
    rw [Mm.fresh, Mm.least_none hall] at hr
    have HH := Lib.hid hr
    have hW1 := HW.out.same0 hs1
    have H2 := Lib.hid (And.intro hM1 (And.intro hW1 (hs1.wf (fb := fb) (base := base) (wk := wk))))
    clear hr hra hM1 hs1 hW1
    go_wp2
    go_ret2
    rw [HH.out]
    exact ⟨rfl, H2.out.1, by simpa [pushed] using H2.out.2.1, H2.out.2.2⟩
  · have hr := HR.out
    rw [Mm.fresh, Mm.least_some hk hRk hleast] at hr
    simp only at hr
    have hW1 := HW.out.same hs1 (fun x hx => by subst hx; exact free_135 hM)
    have hmp := maps_any hM1 hW1 (fun x hx => by have := hX x hx; have := hs1.size; omega) hU page k flags hp
    obtain ⟨N, hN⟩ : ∃ N, N = (M.alloc k).maps root page k flags := ⟨_, rfl⟩
    obtain ⟨U', hU'⟩ : ∃ U', U' = pushed U page N.2 := ⟨_, rfl⟩
    rw [← hN] at hmp hr
    unfold pushed at hU'
    rw [← hU'] at hmp
    have HH := Lib.hid (And.intro hr (And.intro hU' hs1))
    clear hr hra hM1 hs1 hW1 hN hU'
    go_wp2_with fail
    refine hmp.mono ?_
    rintro e w2 ⟨rfl, hM2, hW2, hs2⟩
    have H2 := Lib.hid (And.intro hM2 (And.intro hW2 hs2))
    clear hM2 hW2 hs2 hmp
    go_wp2
    go_ret2
    rw [HH.out.1]
    refine ⟨rfl, H2.out.1, ?_, HH.out.2.2.wfb.wtrans H2.out.2.2⟩
    unfold pushed
    rw [← HH.out.2.1]
    exact H2.out.2.1

theorem shared_any {w : World} {f fb base wk : Nat} {M : Mm} {root : Int} {X : Nat → Prop} {U : List Und} (hM : MemAt w f fb M) (hW : WorkAt w base wk f root X U) (hX : ∀ k, X k → k < w.heap.size) (hU : U.length ≤ 1000) (page frame flags : Int) (hp : In64 page) :
    Calls Try.prog 90 #[.pointer (some ⟨wk, 0, none⟩), .int .i64 page, .int .i64 frame, .int .i64 flags] w fun e w' => e = .returned (.int .i64 (M.shared root page frame flags).2) ∧ MemAt w' f fb (M.shared root page frame flags).1 ∧
      WorkAt w' base wk f root X (pushed U page (M.shared root page frame flags).2) ∧ Same (Wf fb base wk w) w w' := by
  obtain ⟨R, hR⟩ : ∃ R, R = M.shared root page frame flags := ⟨_, rfl⟩
  rw [← hR]
  have hra := share_any hM frame
  obtain ⟨⟨M1, er⟩, hS⟩ : ∃ x, x = M.share frame := ⟨_, rfl⟩
  rw [Mm.shared, ← hS] at hR
  rw [← hS] at hra
  simp only at hra hR
  have d0 := hW.c0
  have HW := Lib.hid hW
  have HR := Lib.hid hR
  clear hR hW hS
  go_enter Try.func90, Try.ntmps90
  go_wp2_with fail
  refine hra.mono ?_
  rintro e w1 ⟨rfl, hM1, hs1⟩
  have hW1 := HW.out.same hs1 (fun x hx => by subst hx; exact free_135 hM)
  by_cases he : er = 0
  · have hr := HR.out
    rw [if_pos he] at hr
    subst he
    have hmp := maps_any hM1 hW1 (fun x hx => by have := hX x hx; have := hs1.size; omega) hU page frame flags hp
    obtain ⟨U', hU'⟩ : ∃ U', U' = pushed U page R.2 := ⟨_, rfl⟩
    rw [← hr] at hmp
    unfold pushed at hU'
    rw [← hU'] at hmp
    have HH := Lib.hid (And.intro hU' hs1)
    clear hr hra hM1 hs1 hW1 hU' HR
    go_wp2_with fail
    refine hmp.mono ?_
    rintro e w2 ⟨rfl, hM2, hW2, hs2⟩
    have H2 := Lib.hid (And.intro hM2 (And.intro hW2 hs2))
    clear hM2 hW2 hs2 hmp
    go_wp2
    go_ret
    refine ⟨rfl, H2.out.1, ?_, HH.out.2.wfb.wtrans H2.out.2.2⟩
    unfold pushed
    rw [← HH.out.1]
    exact H2.out.2.1
  · have hr := HR.out
    rw [if_neg he] at hr
    have hb : (er == 0) = false := by simpa using he
    have H2 := Lib.hid (And.intro hr (And.intro hM1 (And.intro hW1 (hs1.wfb (base := base) (wk := wk)))))
    clear hr hra hM1 hs1 hW1 he HR
    go_wp2
    go_ret
    rw [H2.out.1]
    exact ⟨rfl, H2.out.2.1, by simpa [pushed] using H2.out.2.2.1, H2.out.2.2.2⟩

theorem filled_any {w : World} {f fb base wk : Nat} {M : Mm} {root : Int} {X : Nat → Prop} {U : List Und} (hM : MemAt w f fb M) (hW : WorkAt w base wk f root X U) (hX : ∀ k, X k → k < w.heap.size) (hU : U.length ≤ 1000) (page flags : Int) (s : ByteArray) (hp : In64 page) (hl : s.size ≤ 64)
    (hused : (M.fresh root page flags).2.2 = 0 → (M.fresh root page flags).1.isUsed (M.fresh root page flags).2.1 = true) :
    Calls Try.prog 85 #[.pointer (some ⟨wk, 0, none⟩), .int .i64 page, .int .i64 flags, .string s] w fun e w' => e = .returned (.int .i64 (M.filled root page flags s).2) ∧ MemAt w' f fb (M.filled root page flags s).1 ∧
      WorkAt w' base wk f root X (pushed U page (M.filled root page flags s).2) ∧ Same (Wf fb base wk w) w w' := by
  obtain ⟨R, hR⟩ : ∃ R, R = M.filled root page flags s := ⟨_, rfl⟩
  rw [← hR]
  have hra := fresh_any hM hW hX hU page flags hp
  obtain ⟨⟨M1, k, er⟩, hS⟩ : ∃ x, x = M.fresh root page flags := ⟨_, rfl⟩
  rw [Mm.filled, ← hS] at hR
  rw [← hS] at hra hused
  simp only at hra hR hused
  obtain ⟨U', hU'⟩ : ∃ U', U' = pushed U page er := ⟨_, rfl⟩
  rw [← hU'] at hra
  have HR := Lib.hid (And.intro hR (And.intro hU' hused))
  clear hR hW hS hU' hused
  go_enter Try.func85, Try.ntmps85
  go_wp2_with fail
  refine hra.mono ?_
  rintro e w1 ⟨rfl, hM1, hW1, hs1⟩
  obtain ⟨hr, hu, hus⟩ := HR.out
  by_cases he : er = 0
  · rw [if_pos he, if_pos (hus he)] at hr
    have husd := hus he
    subst he
    have hwr := write_any hM1 k s hl
    rw [husd] at hwr
    simp only [if_true] at hwr
    have d0 := hW1.c0
    have hW2 := fun w2 (h : Same (· = fb) w1 w2) => hW1.same h (fun x hx => by subst hx; exact free_135 hM1)
    have HH := Lib.hid (And.intro hr (And.intro hu (And.intro hs1 @hW2)))
    clear hr hu hus hra hM1 hs1 hW1 hW2 HR husd
    go_wp2_with fail
    refine hwr.mono ?_
    rintro e w2 ⟨rfl, hM2, hs2⟩
    have H2 := Lib.hid (And.intro hM2 hs2)
    clear hM2 hs2 hwr
    go_wp2
    go_ret
    obtain ⟨hr, hu, hs1, hW2⟩ := HH.out
    rw [hr, ← hu]
    exact ⟨rfl, H2.out.1, hW2 _ H2.out.2, hs1.wtrans H2.out.2.wfb⟩
  · rw [if_neg he] at hr
    have hb : (er == 0) = false := by simpa using he
    have H2 := Lib.hid (And.intro hr (And.intro hu (And.intro hM1 (And.intro hW1 hs1))))
    clear hr hu hus hra hM1 hs1 hW1 he HR
    go_wp2
    go_ret
    obtain ⟨hr, hu, hM1, hW1, hs1⟩ := H2.out
    rw [hr, ← hu]
    exact ⟨rfl, hM1, hW1, hs1⟩
end Go.Proofs.Ytlbgnmcjdmdjpaa
/- Package space: attachments as rows; Clone, own, of. -/
namespace Go.Proofs.Ytlbgnmcjdmdjpaa
open Go.RowKit Go.Shelf
attribute [local go_sem] Oper.semAt_some

/-- An attachment: its page, how many, whether it may be written. -/
structure Att where
  pg : Int
  ct : Int
  wr : Bool
deriving DecidableEq
def flatA (l : List Att) : List Value := l.flatMap fun a => [.int .i64 a.pg, .int .i64 a.ct, .bool a.wr]
theorem flatA_len (l : List Att) : (flatA l).length = l.length * 3 := by
  induction l with
  | nil => rfl
  | cons a l ih => simp only [flatA, List.flatMap_cons, List.length_append, List.length_cons, List.length_nil] at ih ⊢; omega
theorem flatA_one (l : List Att) : ∀ u ∈ flatA l, u.oneCell' = true := by
  intro u hu
  simp only [flatA, List.mem_flatMap] at hu
  obtain ⟨a, _, ha⟩ := hu
  simp only [List.mem_cons, List.not_mem_nil, or_false] at ha
  rcases ha with rfl | rfl | rfl <;> rfl
theorem flatA_append (a b : List Att) : flatA (a ++ b) = flatA a ++ flatA b := by simp [flatA]
theorem Try.under73 : Try.prog.underlying 73 = some (.slice 164) := by kernel_rfl
theorem info164 : (Try.prog.info? 164).map (fun i => (i.zero, i.size, i.bytes)) = some (some (.agg #[.int .i64 0, .int .i64 0, .bool false]), 3, 24) := by kernel_rfl
/-- A row of attachments of one's own (or none). -/
def AttO (w : World) (v : Value) (l : List Att) : Prop := w.ownsRow 0 164 3 v l.length (flatA l)
theorem AttO.same {w w' : World} {v : Value} {l : List Att} {S : Nat → Prop} (h : AttO w v l) (hs : Same S w w') (hS : ∀ k, S k → ∀ n, w.shape? k ≠ some (164, n)) : AttO w' v l :=
  ownsRow_same h hs fun g hg hk => by
    obtain ⟨_, _, n, hn⟩ := ownsRow_shape h hg
    exact hS g hk n hn
theorem AttO.same0 {w w' : World} {v : Value} {l : List Att} (h : AttO w v l) (hs : Same (fun _ => False) w w') : AttO w' v l := h.same hs (fun _ h => h.elim)
theorem AttO.cells {w : World} {a : Option Addr} {n c : Nat} {l : List Att} (h : AttO w (.slice a n c) l) : n = l.length ∧ ((a = none ∧ l = []) ∨ ∃ g, a = some ⟨g, 0, none⟩ ∧ g < w.heap.size ∧ ∀ j u, (flatA l)[j]? = some u → w.cell? ⟨g, j, none⟩ = some u) := by
  rcases h.2 with ⟨hv, h0⟩ | ⟨g, cap, cur, hv, _, hg, _⟩
  · cases hv
    exact ⟨h0.symm, .inl ⟨rfl, List.length_eq_zero_iff.1 h0⟩⟩
  · cases hv
    refine ⟨rfl, .inr ⟨g, rfl, (Array.getElem?_eq_some_iff.1 hg).1, fun j u hu => ?_⟩⟩
    have := World.ownsRow.cells (g := g) (show w.ownsRow 0 164 3 _ l.length (flatA l) from h) rfl j u hu
    have e : (⟨g, 0, none⟩ : Addr).add j = ⟨g, j, none⟩ := by
      unfold Addr.add
      by_cases hj : j = 0
      · subst hj; rfl
      · simp [hj]
    rw [e] at this
    exact this

set_option maxHeartbeats 800000 in
set_option maxRecDepth 65536 in
theorem clone_att (w : World) (v : Value) (l : List Att) (h : AttO w v l) (hl : l.length ≤ 1000) :
    Calls Try.prog 114 #[v] w fun e w' => ∃ v', e = .returned v' ∧ w'.ownsRow w.heap.size 164 3 v' l.length (flatA l) ∧ Same (fun _ => False) w w' := by
  obtain ⟨i0, hi0, hz0, hz1', hz2⟩ := info_parts info164
  rcases h.2 with ⟨rfl, h0⟩ | ⟨g, cap, cur, rfl, hb, hg, hrest⟩
  · have hl0 : l = [] := List.length_eq_zero_iff.1 h0
    subst hl0
    have hnil := run_eql_slice_nil (P := Try.prog) w 73 164 none 0 0 Try.under73
    go_enter Try.func114, Try.ntmps114
    go_wp2
    exact bodyPost_ret (results_tmp rfl _ _ _) rfl ⟨_, rfl, World.ownsRow_nil _ _ _ _, Same.refl _ _⟩
  · obtain ⟨A, hA⟩ : ∃ A, A = w.alloc (.cells #[] 164) := ⟨_, rfl⟩
    have hsA : Same (fun _ => False) w A := by rw [hA]; exact same_alloc _
    have hownA : A.ownsRow w.heap.size 164 3 (.slice (some ⟨w.heap.size, 0, none⟩) 0 0) 0 [] := by
      rw [hA]
      exact ⟨by simp, .inr ⟨w.heap.size, 0, #[], rfl, Nat.le_refl _, World.alloc_heap_new w _, Nat.le_refl _, by unfold maxLen; omega, by simp, by simp⟩⟩
    have hcA := World.ownsRow.cells (g := g) (show A.ownsRow 0 164 3 _ l.length (flatA l) from h.same0 hsA) rfl
    obtain ⟨v', w2, hrun, hown2, hs2, hfr⟩ := run_append_same (P := Try.prog) A w.heap.size 73 73 164 i0 _ 3 24 Try.under73 hi0 hz0 hz1' hz2 rfl (by decide) (.slice (some ⟨w.heap.size, 0, none⟩) 0 0) 0 [] hownA ⟨g, 0, none⟩ l.length cap (flatA l) (flatA_len l) hcA (flatA_one l) (by unfold maxLen; omega) (by omega) (by rw [hA]; simp)
    rw [Nat.zero_add, List.nil_append] at hown2
    rw [hA] at hrun
    have hs02 : Same (fun _ => False) w w2 := hsA.trans' (hs2.mono (T := fun k => w.heap.size ≤ k) (fun k _ e => by simp only [Value.ownBlock, Option.some.injEq] at e; omega)) (fun k hk _ => by omega)
    have H2 := Lib.hid (And.intro hown2 hs02)
    clear hown2 hs02 hs2 hfr hcA hownA hsA hA hg hb hrest h
    have hnil := run_eql_slice_nil (P := Try.prog) w 73 164 (some ⟨g, 0, none⟩) l.length cap Try.under73
    simp only [Option.isNone_some] at hnil
    go_enter Try.func114, Try.ntmps114
    go_wp2_with (at_builtin; refine wpList_append_run rfl (.tmp 5) (.tmp 6) 73 rfl _ _ rfl rfl hrun ?_)
    exact bodyPost_ret (results_tmp rfl _ _ _) rfl ⟨v', rfl, H2.out⟩

/-- Five cells that are stored. -/
theorem put5 {w : World} {b : Nat} {u0 u1 u2 u3 u4 v0 v1 v2 v3 v4 : Value} (h0 : w.cell? ⟨b, 0, none⟩ = some u0) (h1 : w.cell? ⟨b, 1, none⟩ = some u1) (h2 : w.cell? ⟨b, 2, none⟩ = some u2) (h3 : w.cell? ⟨b, 3, none⟩ = some u3) (h4 : w.cell? ⟨b, 4, none⟩ = some u4) :
    (((((w.setCell ⟨b, 0, none⟩ v0).setCell ⟨b, 1, none⟩ v1).setCell ⟨b, 2, none⟩ v2).setCell ⟨b, 3, none⟩ v3).setCell ⟨b, 4, none⟩ v4).cell? ⟨b, 0, none⟩ = some v0 ∧ (((((w.setCell ⟨b, 0, none⟩ v0).setCell ⟨b, 1, none⟩ v1).setCell ⟨b, 2, none⟩ v2).setCell ⟨b, 3, none⟩ v3).setCell ⟨b, 4, none⟩ v4).cell? ⟨b, 1, none⟩ = some v1 ∧
    (((((w.setCell ⟨b, 0, none⟩ v0).setCell ⟨b, 1, none⟩ v1).setCell ⟨b, 2, none⟩ v2).setCell ⟨b, 3, none⟩ v3).setCell ⟨b, 4, none⟩ v4).cell? ⟨b, 2, none⟩ = some v2 ∧ (((((w.setCell ⟨b, 0, none⟩ v0).setCell ⟨b, 1, none⟩ v1).setCell ⟨b, 2, none⟩ v2).setCell ⟨b, 3, none⟩ v3).setCell ⟨b, 4, none⟩ v4).cell? ⟨b, 3, none⟩ = some v3 ∧
    (((((w.setCell ⟨b, 0, none⟩ v0).setCell ⟨b, 1, none⟩ v1).setCell ⟨b, 2, none⟩ v2).setCell ⟨b, 3, none⟩ v3).setCell ⟨b, 4, none⟩ v4).cell? ⟨b, 4, none⟩ = some v4 := by
  have key : ∀ (w : World) (i j : Nat) (v u : Value), i ≠ j → w.cell? ⟨b, j, none⟩ = some u → (w.setCell ⟨b, i, none⟩ v).cell? ⟨b, j, none⟩ = some u := fun w i j v u h hc => by
    rw [World.cell?_setCell_other _ _ _ _ (by simp [h])]; exact hc
  have same : ∀ (w : World) (j : Nat) (v u : Value), w.cell? ⟨b, j, none⟩ = some u → (w.setCell ⟨b, j, none⟩ v).cell? ⟨b, j, none⟩ = some v := fun w j v u hc => World.cell?_setCell_same _ _ _ hc
  refine ⟨?_, ?_, ?_, ?_, ?_⟩
  · exact key _ _ _ _ _ (by omega) (key _ _ _ _ _ (by omega) (key _ _ _ _ _ (by omega) (key _ _ _ _ _ (by omega) (same _ _ _ _ h0))))
  · exact key _ _ _ _ _ (by omega) (key _ _ _ _ _ (by omega) (key _ _ _ _ _ (by omega) (same _ _ _ _ (key _ _ _ _ _ (by omega) h1))))
  · exact key _ _ _ _ _ (by omega) (key _ _ _ _ _ (by omega) (same _ _ _ _ (key _ _ _ _ _ (by omega) (key _ _ _ _ _ (by omega) h2))))
  · exact key _ _ _ _ _ (by omega) (same _ _ _ _ (key _ _ _ _ _ (by omega) (key _ _ _ _ _ (by omega) (key _ _ _ _ _ (by omega) h3))))
  · exact same _ _ _ _ (key _ _ _ _ _ (by omega) (key _ _ _ _ _ (by omega) (key _ _ _ _ _ (by omega) (key _ _ _ _ _ (by omega) h4))))
theorem loadVar75 (w : World) (b : Nat) (v0 v1 v2 v3 v4 : Value) (h0 : w.cell? ⟨b, 0, none⟩ = some v0) (h1 : w.cell? ⟨b, 1, none⟩ = some v1) (h2 : w.cell? ⟨b, 2, none⟩ = some v2) (h3 : w.cell? ⟨b, 3, none⟩ = some v3) (h4 : w.cell? ⟨b, 4, none⟩ = some v4) :
    (loadVar 75 ⟨b, 0, none⟩).run Try.prog w = .ok (.agg #[v0, v1, v2, v3, v4]) w := by simp [go_sem, h0, h1, h2, h3, h4]
/-- A space, its row of attachments laid at v. -/
structure Spc where
  root : Int
  text : Int
  data : Int
  heap : Int
  atts : List Att
def Spc.val (s : Spc) (v : Value) : Value := .agg #[.int .i64 s.root, .int .i64 s.text, .int .i64 s.data, .int .i64 s.heap, v]

set_option maxHeartbeats 800000 in
theorem own_any (w : World) (a b c d : Int) (v : Value) (l : List Att) (h : AttO w v l) (hl : l.length ≤ 1000) :
    Calls Try.prog 89 #[.agg #[.int .i64 a, .int .i64 b, .int .i64 c, .int .i64 d, v]] w fun e w' => ∃ v', e = .returned (.agg #[.int .i64 a, .int .i64 b, .int .i64 c, .int .i64 d, v']) ∧ w'.ownsRow w.heap.size 164 3 v' l.length (flatA l) ∧ Same (fun _ => False) w w' := by
  obtain ⟨va, vc, rfl⟩ := own_slice h
  have hcl := clone_att ((w.alloc (.cells #[.int .i64 a, .int .i64 b, .int .i64 c, .int .i64 d, .slice va l.length vc] 75)).alloc (.cells #[.int .i64 0, .int .i64 0, .int .i64 0, .int .i64 0, .slice none 0 0] 75)) _ l (h.same0 ((same_alloc _).alloc _)) hl
  have H := Lib.hid h
  clear h
  go_enter Try.func89, Try.ntmps89
  go_wp2_with fail
  refine hcl.mono ?_
  rintro e w1 ⟨v', rfl, hown, hs1⟩
  obtain ⟨va', vc', rfl⟩ := own_slice hown
  have hs01 : Same (fun _ => False) w w1 := ((same_alloc _).alloc _).trans hs1
  have c0 : w1.cell? ⟨w.heap.size, 0, none⟩ = some (.int .i64 a) := hs1.cell (by simp [go_sem]) (by simp)
  have c1 : w1.cell? ⟨w.heap.size, 1, none⟩ = some (.int .i64 b) := hs1.cell (by simp [go_sem]) (by simp)
  have c2 : w1.cell? ⟨w.heap.size, 2, none⟩ = some (.int .i64 c) := hs1.cell (by simp [go_sem]) (by simp)
  have c3 : w1.cell? ⟨w.heap.size, 3, none⟩ = some (.int .i64 d) := hs1.cell (by simp [go_sem]) (by simp)
  have c4 : w1.cell? ⟨w.heap.size, 4, none⟩ = some (.slice va l.length vc) := hs1.cell (by simp [go_sem]) (by simp)
  have cz : w1.frozen? ⟨w.heap.size, 4, none⟩ = false := hs1.unfrozen (a := ⟨w.heap.size, 4, none⟩) (v := .slice va l.length vc) (by simp [go_sem]) (by simp [go_sem]) (by simp)
  have r0 : w1.cell? ⟨w.heap.size + 1, 0, none⟩ = some (.int .i64 0) := hs1.cell (by simp [go_sem]) (by simp)
  have r1 : w1.cell? ⟨w.heap.size + 1, 1, none⟩ = some (.int .i64 0) := hs1.cell (by simp [go_sem]) (by simp)
  have r2 : w1.cell? ⟨w.heap.size + 1, 2, none⟩ = some (.int .i64 0) := hs1.cell (by simp [go_sem]) (by simp)
  have r3 : w1.cell? ⟨w.heap.size + 1, 3, none⟩ = some (.int .i64 0) := hs1.cell (by simp [go_sem]) (by simp)
  have r4 : w1.cell? ⟨w.heap.size + 1, 4, none⟩ = some (.slice none 0 0) := hs1.cell (by simp [go_sem]) (by simp)
  have z0 : w1.frozen? ⟨w.heap.size + 1, 0, none⟩ = false := hs1.unfrozen (a := ⟨w.heap.size + 1, 0, none⟩) (v := .int .i64 0) (by simp [go_sem]) (by simp [go_sem]) (by simp)
  have z1 : w1.frozen? ⟨w.heap.size + 1, 1, none⟩ = false := hs1.unfrozen (a := ⟨w.heap.size + 1, 1, none⟩) (v := .int .i64 0) (by simp [go_sem]) (by simp [go_sem]) (by simp)
  have z2 : w1.frozen? ⟨w.heap.size + 1, 2, none⟩ = false := hs1.unfrozen (a := ⟨w.heap.size + 1, 2, none⟩) (v := .int .i64 0) (by simp [go_sem]) (by simp [go_sem]) (by simp)
  have z3 : w1.frozen? ⟨w.heap.size + 1, 3, none⟩ = false := hs1.unfrozen (a := ⟨w.heap.size + 1, 3, none⟩) (v := .int .i64 0) (by simp [go_sem]) (by simp [go_sem]) (by simp)
  have z4 : w1.frozen? ⟨w.heap.size + 1, 4, none⟩ = false := hs1.unfrozen (a := ⟨w.heap.size + 1, 4, none⟩) (v := .slice none 0 0) (by simp [go_sem]) (by simp [go_sem]) (by simp)
  have H2 := Lib.hid (And.intro hown hs01)
  clear hcl hown hs1 hs01
  go_wp2
  obtain ⟨p0, p1, p2, p3, p4⟩ := put5 (w := w1.setCell ⟨w.heap.size, 4, none⟩ (.slice va' l.length vc')) (b := w.heap.size + 1) (v0 := .int .i64 a) (v1 := .int .i64 b) (v2 := .int .i64 c) (v3 := .int .i64 d) (v4 := .slice va' l.length vc') (cell_ne r0 (by simp)) (cell_ne r1 (by simp)) (cell_ne r2 (by simp)) (cell_ne r3 (by simp)) (cell_ne r4 (by simp))
  have hsE : Same (fun k => w.heap.size ≤ k) w1 ((((((w1.setCell ⟨w.heap.size, 4, none⟩ (.slice va' l.length vc')).setCell ⟨w.heap.size + 1, 0, none⟩ (.int .i64 a)).setCell ⟨w.heap.size + 1, 1, none⟩ (.int .i64 b)).setCell ⟨w.heap.size + 1, 2, none⟩ (.int .i64 c)).setCell ⟨w.heap.size + 1, 3, none⟩ (.int .i64 d)).setCell ⟨w.heap.size + 1, 4, none⟩ (.slice va' l.length vc')) :=
    ((((((Same.refl _ _).setCell _ (.inr (by simp))).setCell _ (.inr (by simp))).setCell _ (.inr (by simp))).setCell _ (.inr (by simp))).setCell _ (.inr (by simp))).setCell _ (.inr (by simp))
  have hsF : Same (fun k => k = w.heap.size ∨ k = w.heap.size + 1) w1 ((((((w1.setCell ⟨w.heap.size, 4, none⟩ (.slice va' l.length vc')).setCell ⟨w.heap.size + 1, 0, none⟩ (.int .i64 a)).setCell ⟨w.heap.size + 1, 1, none⟩ (.int .i64 b)).setCell ⟨w.heap.size + 1, 2, none⟩ (.int .i64 c)).setCell ⟨w.heap.size + 1, 3, none⟩ (.int .i64 d)).setCell ⟨w.heap.size + 1, 4, none⟩ (.slice va' l.length vc')) :=
    ((((((Same.refl _ _).setCell _ (.inr (by simp))).setCell _ (.inr (by simp))).setCell _ (.inr (by simp))).setCell _ (.inr (by simp))).setCell _ (.inr (by simp))).setCell _ (.inr (by simp))
  refine bodyPost_ret (results_cell1 rfl (by rfl) (loadVar75 _ _ _ _ _ _ _ p0 p1 p2 p3 p4)) rfl ⟨_, rfl, ownsRow_base (ownsRow_same H2.out.1 hsF (fun g hg e => ?_)) (by simp; omega), H2.out.2.trans' hsE (fun k hk _ => by omega)⟩
  have := (ownsRow_shape H2.out.1 hg).1
  simp only [World.size_alloc] at this
  omega
end Go.Proofs.Ytlbgnmcjdmdjpaa
/- A deferred function that holds a range over a func; work's ends. -/
namespace Go.Proofs.Ytlbgnmcjdmdjpaa
open Go.RowKit Go.Shelf
attribute [local go_sem] Oper.semAt_some

section
variable {P : Program} {F : Fence} {n : Nat}
/-- A frame leaves, marks of loops among its deferred calls alone. -/
def Marks (P : Program) (fn : Func) (tmps : Array Value) (R : Ending → World → Prop) : List Deferred → World → Prop
  | [], w => ∃ v, (results fn tmps).run P w = .ok v w ∧ R (.returned v) w
  | d :: ds, w => ∃ r w', d.target = .collected r ∧ (Instr.takeDeferred r).run P w = .ok [] w' ∧ Marks P fn tmps R ds w'
def bodyPostMD (P : Program) (fn : Func) (R : Ending → World → Prop) : Exit → Act → World → Prop
  | .normal, a, w | .ret, a, w => Marks P fn a.tmps R a.defers w
  | _, _, _ => False
theorem marks_steps {fn : Func} {tmps : Array Value} {R : Ending → World → Prop} : ∀ (ds : List Deferred) (w : World) (fr : Frame) (cs : List Frame), fr.mode = .returning → fr.defers = ds → fr.tmps = tmps → P.funcs[fr.fn]? = some fn → F.fn fr.fn → F.room (cs.length + 1 + n) → Marks P fn tmps R ds w →
    ∃ v w' fr', R (.returned v) w' ∧ StepsIn (Machine.fenced P F) P (lone fr cs w) (lone fr' cs w') ∧ fr'.kind = fr.kind ∧ fr'.fn = fr.fn ∧ fr'.going P w' (.returned v) := by
  intro ds
  induction ds with
  | nil =>
    intro w fr cs hm hd ht hf hb hr h
    obtain ⟨v, hres, hR⟩ := h
    exact ⟨v, w, fr, hR, StepsIn.refl _, rfl, rfl, hm, hd, fn, hf, ht ▸ hres⟩
  | cons d ds ih =>
    intro w fr cs hm hd ht hf hb hr h
    obtain ⟨r, w', htar, htake, hrest⟩ := h
    have h1 := step_collected (cs := cs) (by rw [hm]; simp) hd htar htake
    have i1 : (lone fr cs w).fenced P F := fenced_out hb hr (by rw [hm]; simp) hd (fun g hg => by rw [htar] at hg; simp [Target.leads] at hg)
    obtain ⟨v, w'', fr', hR, hs, hk, hfn, hg⟩ := ih w' { fr with defers := [] ++ ds } cs hm rfl ht hf hb hr hrest
    exact ⟨v, w'', fr', hR, StepsIn.trans (.one i1 h1) hs, hk, hfn, hg⟩
/-- A function that holds a range over a function, entered as a deferred call. -/
theorem callsDIn_of_wp_marks {f : FuncId} {fn : Func} {c : Code} {args : Array Value} {u : FrameMode} {w : World} {R : Ending → World → Prop} (hu : u = .returning)
    (hf : P.funcs[f]? = some fn) (hb : fn.body = some c) (hF : F.fn f)
    (h : c.wpIn F n P (bodyPostMD P fn R) { tmps := args ++ Array.replicate (fn.ntmps - args.size) undef, defers := [] } w) (hro : F.round = none := by rfl) :
    CallsDIn F n P f args u w fun e u' w' => u' = u ∧ R e w' := by
  refine ⟨hF, fun c₀ cs hu hr => ?_⟩
  let b : Frame := { (default : Frame) with fn := f, kind := .deferred, roundOf := none }
  have henter : Frame.enter P f args .deferred =
      b.atR { tmps := args ++ Array.replicate (fn.ntmps - args.size) undef, defers := [] } [.code c] := by
    simp [Frame.enter, Frame.atR, hf, hb, b]
  have hc : ({ c₀ with mode := u } : Frame) = c₀ := by subst hu; rfl
  obtain ⟨e, a', w', hq, harr⟩ := h b [] (c₀ :: cs) hro.symm hF hr
  rw [← henter] at harr
  cases e with
  | normal =>
    obtain ⟨v, w'', fr', hR, hs, hk, hfn, hg⟩ := marks_steps (F := F) (n := n) a'.defers w' { b.atR a' [] with mode := .returning } (c₀ :: cs) rfl rfl rfl hf hF hr hq
    exact ⟨.returned v, u, w'', fr', ⟨rfl, hR⟩, (by rw [hc]; exact StepsIn.trans harr (StepsIn.trans (.one (fenced_calm (fr := b.atR a' []) hF hr rfl) (stepR_end rfl)) hs)), hk, hfn, hg⟩
  | ret =>
    obtain ⟨todo, hs₀⟩ := harr.1 rfl
    obtain ⟨v, w'', fr', hR, hs, hk, hfn, hg⟩ := marks_steps (F := F) (n := n) a'.defers w' { b.atR a' todo with mode := .returning } (c₀ :: cs) rfl rfl rfl hf hF hr hq
    exact ⟨.returned v, u, w'', fr', ⟨rfl, hR⟩, (by rw [hc]; exact StepsIn.trans hs₀ hs), hk, hfn, hg⟩
  | panic chain => exact hq.elim
  | exit id => exact hq.elim
  | goto l => exact hq.elim
  | outgrown => exact hq.elim
theorem callsDIn_wide {f : FuncId} {args : Array Value} {u : FrameMode} {w : World} {R : Ending → FrameMode → World → Prop} (h : CallsDIn Fence.wide n P f args u w R) : CallsD P f args u w R :=
  fun c cs hu => let ⟨e, u', w', fr, r, s, k, _, g⟩ := h.2 c cs hu (room_wide _); ⟨e, u', w', fr, r, comesIn_wide.1 s, k, g⟩
/-- One mark, then out. -/
theorem marks_one {fn : Func} {tmps : Array Value} {R : Ending → World → Prop} {D : Nat} {w : World} {v : Value}
    (hD : w.heap[D]? = some (.deferred (some []))) (hv : ∀ W', Same (· = D) w W' → W'.heap.size = w.heap.size → (results fn tmps).run P W' = .ok v W' ∧ R (.returned v) W') :
    Marks P fn tmps R [{ target := .collected D, args := #[] }] w := by
  obtain ⟨h1, h2⟩ := hv (w.putObj D (.deferred none)) (same_putObj _ hD) (by simp)
  exact ⟨_, _, rfl, run_takeDeferred hD, _, h1, h2⟩
end
end Go.Proofs.Ytlbgnmcjdmdjpaa
/- slices.Backward over functions; work's ends. -/
namespace Go.Proofs.Ytlbgnmcjdmdjpaa
open Go.RowKit Go.Shelf
attribute [local go_sem] Oper.semAt_some

theorem backward_any (w : World) (a : Option Addr) (n c : Nat) : Calls Try.prog 111 #[.slice a n c] w fun e w' => e = .returned (.func (.func 124) #[] #[.pointer (some ⟨w.heap.size, 0, none⟩)]) ∧ w' = w.alloc (.cells #[.slice a n c] 149) := by
  go_enter Try.func111, Try.ntmps111
  go_wp2
  go_ret
  exact ⟨rfl, rfl⟩

/-- Backwards over a row of functions. -/
theorem backward1 (l bx N cap : Nat) (va : Option Addr) (vs : List (Fn × Array Value)) (J : Nat → World → Prop) (hN : vs.length = N) (hN2 : N ≤ 2000)
    (hc : ∀ i W, J i W → W.cell? ⟨bx, 0, none⟩ = some (.slice va N cap) ∧ ∀ j x, vs[j]? = some x → ∃ g, va = some ⟨g, 0, none⟩ ∧ W.cell? ⟨g, j, none⟩ = some (.func x.1 #[] x.2))
    (hy : ∀ i W x, i < N → J i W → vs[N - 1 - i]? = some x → YieldAt Fence.wide 0 Try.prog l #[.int .i64 ((N : Int) - 1 - i), .func x.1 #[] x.2] W fun e W' => e = .returned (.bool true) ∧ J (i + 1) W')
    (w : World) (h0 : J 0 w) :
    Calls Try.prog 124 #[.func (.yield l) #[] #[], .pointer (some ⟨bx, 0, none⟩)] w fun e W => (∃ v, e = .returned v) ∧ J N W := by
  obtain ⟨c00, -⟩ := hc 0 w h0
  refine (callsIn_wide (n := 0)).1 ?_
  refine callsIn_of_wp Try.func124 rfl trivial ?_ rfl
  simp only [Try.ntmps124, List.size_toArray, List.length_cons, List.length_nil, Nat.reduceAdd, Nat.reduceSub, Array.replicate_succ, Array.replicate_zero, List.push_toArray, List.append_toArray, List.nil_append, List.cons_append]
  gi_wp2
  gi_loopw [3] (fun p wr => ∃ k : Nat, k ≤ N ∧ p = .int .i64 ((N : Int) - 1 - k) ∧ J k wr) (fun p _ => (intOf p + 1).toNat)
  case atStart => exact ⟨0, by omega, by simp, h0⟩
  case round =>
    obtain ⟨k, hk, rfl, hJ⟩ := hrel
    clear c00
    obtain ⟨c0, c1⟩ := hc k wr hJ
    by_cases hlt : k < N
    · have hb : decide (0 ≤ (N : Int) - 1 - k) = true := by simp; omega
      have hb2 : decide ((N : Int) - 1 - k < 0) = false := by simp; omega
      obtain ⟨x, hx⟩ : ∃ x, vs[N - 1 - k]? = some x := by
        rw [List.getElem?_eq_getElem (by omega)]; exact ⟨_, rfl⟩
      obtain ⟨g, rfl, hcell⟩ := c1 _ x hx
      obtain ⟨fn, tmps, assign, body, hye, hR⟩ := hy k wr x hlt hJ hx
      have e1 : ((N : Int) - 1 - k).toNat = N - 1 - k := by omega
      have e2 : (0 : Int) ≤ (N : Int) - 1 - k := by omega
      have e3 : (N : Int) - 1 - k < N := by omega
      gi_wp2
      refine hR.mono ?_
      rintro e W3 ⟨rfl, hJ3⟩
      gi_wp2
      go_roundw
      case rel => exact ⟨k + 1, by omega, by go_num, hJ3⟩
      case measure => simp [intOf]; omega
    · obtain rfl : k = N := by omega
      have hb : decide (0 ≤ (k : Int) - 1 - k) = false := by simp; omega
      gi_wp2
      exact bodyPost_end (results_none rfl _ _ _) rfl ⟨⟨_, rfl⟩, hJ⟩

/-- All is undone, in this order. -/
def Mm.undo (M : Mm) (root : Int) : List Und → Mm
  | [] => M
  | .root :: r => ((M.drop root).1).undo root r
  | .page p :: r => (M.unmaps root p).undo root r
def Mm.undo1 (M : Mm) (root : Int) : Und → Mm
  | .root => (M.drop root).1
  | .page p => M.unmaps root p
theorem Mm.undo_cons (M : Mm) (root : Int) (u : Und) (r : List Und) : M.undo root (u :: r) = (M.undo1 root u).undo root r := by cases u <;> rfl
theorem Mm.undo_append (root : Int) (r : List Und) : ∀ (l : List Und) (M : Mm), M.undo root (l ++ r) = (M.undo root l).undo root r
  | [], _ => rfl
  | u :: l, M => by rw [List.cons_append, Mm.undo_cons, Mm.undo_append root r l, Mm.undo_cons]
theorem Mm.undo_snoc (M : Mm) (root : Int) (l : List Und) (u : Und) : M.undo root (l ++ [u]) = (M.undo root l).undo1 root u := by rw [Mm.undo_append, Mm.undo_cons]; rfl

theorem clo109 {w : World} {f fb b1 b2 : Nat} {M : Mm} {root : Int} (hM : MemAt w f fb M) (h1 : w.cell? ⟨b1, 0, none⟩ = some (.pointer (some ⟨f, 0, none⟩))) (h2 : w.cell? ⟨b2, 0, none⟩ = some (.int .i64 root)) :
    Calls Try.prog 109 #[.pointer (some ⟨b1, 0, none⟩), .pointer (some ⟨b2, 0, none⟩)] w fun e w' => e = .returned (.tuple #[]) ∧ MemAt w' f fb (M.drop root).1 ∧ Same (· = fb) w w' := by
  have hd := drop_any hM root
  go_enter Try.func109, Try.ntmps109
  go_wp2_with fail
  refine hd.mono ?_
  rintro e w1 ⟨rfl, hM1, hs1⟩
  go_wp2
  go_end0
  exact ⟨rfl, hM1, hs1⟩
theorem clo125 {w : World} {f fb wk b1 b2 : Nat} {M : Mm} {root page : Int} (hM : MemAt w f fb M) (h0 : w.cell? ⟨wk, 0, none⟩ = some (.pointer (some ⟨f, 0, none⟩))) (h1 : w.cell? ⟨wk, 1, none⟩ = some (.int .i64 root)) (hne : wk ≠ fb) (hp : In64 page)
    (e1 : w.cell? ⟨b1, 0, none⟩ = some (.pointer (some ⟨wk, 0, none⟩))) (e2 : w.cell? ⟨b2, 0, none⟩ = some (.int .i64 page)) :
    Calls Try.prog 125 #[.pointer (some ⟨b1, 0, none⟩), .pointer (some ⟨b2, 0, none⟩)] w fun e w' => e = .returned (.tuple #[]) ∧ MemAt w' f fb (M.unmaps root page) ∧ Same (· = fb) w w' := by
  have hd := unmaps_any hM h0 h1 hne page hp
  go_enter Try.func125, Try.ntmps125
  go_wp2_with fail
  refine hd.mono ?_
  rintro e w1 ⟨rfl, hM1, hs1⟩
  go_wp2
  go_end0
  exact ⟨rfl, hM1, hs1⟩
/-- What is to be undone, whichever it is. -/
theorem undo_clo {w : World} {f fb wk : Nat} {M : Mm} {root : Int} {X : Nat → Prop} {u : Und} {fn : Fn} {cap : Array Value} (hM : MemAt w f fb M) (h0 : w.cell? ⟨wk, 0, none⟩ = some (.pointer (some ⟨f, 0, none⟩))) (h1 : w.cell? ⟨wk, 1, none⟩ = some (.int .i64 root)) (hne : wk ≠ fb)
    (hu : UndoOk w wk f root X u (.func fn #[] cap)) : ∃ k, fn = .func k ∧ (k = 109 ∨ k = 125) ∧ cap.size = 2 ∧ Calls Try.prog k cap w fun e w' => e = .returned (.tuple #[]) ∧ MemAt w' f fb (M.undo1 root u) ∧ Same (· = fb) w w' := by
  cases u with
  | root =>
    obtain ⟨b1, b2, hv, e1, e2, -⟩ := hu
    cases hv
    exact ⟨109, rfl, .inl rfl, rfl, clo109 hM e1 e2⟩
  | page p =>
    obtain ⟨hp, b1, b2, hv, e1, e2, -⟩ := hu
    cases hv
    exact ⟨125, rfl, .inr rfl, rfl, clo125 hM h0 h1 hne hp e1 e2⟩
theorem funcs_of {w : World} {wk f : Nat} {root : Int} {X : Nat → Prop} : ∀ (U : List Und) (vs : List Value), vs.length = U.length → (∀ (i : Nat) (u : Und), U[i]? = some u → ∃ x : Value, vs[i]? = some x ∧ UndoOk w wk f root X u x) → ∃ l : List (Fn × Array Value), vs = l.map fun x => .func x.1 #[] x.2
  | [], vs, h, _ => ⟨[], by simpa using h⟩
  | u :: U, [], h, _ => by simp at h
  | u :: U, v :: vs, h, hu => by
    obtain ⟨l, hl⟩ := funcs_of (w := w) (wk := wk) (f := f) (root := root) (X := X) U vs (by simpa using h) (fun i u hi => by simpa using hu (i + 1) u (by simpa using hi))
    obtain ⟨x, hx, hok⟩ := hu 0 u rfl
    simp only [List.getElem?_cons_zero, Option.some.injEq] at hx
    subst hx
    have : ∃ y : Fn × Array Value, v = .func y.1 #[] y.2 := by
      cases u with
      | root => obtain ⟨b1, b2, rfl, -⟩ := hok; exact ⟨(_, _), rfl⟩
      | page p => obtain ⟨_, b1, b2, rfl, -⟩ := hok; exact ⟨(_, _), rfl⟩
    obtain ⟨y, rfl⟩ := this
    exact ⟨y :: l, by rw [hl]; rfl⟩

theorem ends_ok (w : World) (p : Value) (eb : Nat) (u : FrameMode) (he : w.cell? ⟨eb, 0, none⟩ = some (.int .i64 0)) :
    CallsDIn Fence.wide 0 Try.prog 83 #[p, .pointer (some ⟨eb, 0, none⟩)] u w fun e u' w' => u' = u ∧ ((∃ v, e = .returned v) ∧ w = w') := by
  refine callsDIn_of_wp Try.func83 rfl trivial ?_
  simp only [Try.ntmps83, List.size_toArray, List.length_cons, List.length_nil, Nat.reduceAdd, Nat.reduceSub, Array.replicate_succ, Array.replicate_zero, List.push_toArray, List.append_toArray, List.nil_append, List.cons_append]
  gi_wp2
  exact bodyPost_ret (results_none rfl _ _ _) rfl ⟨⟨_, rfl⟩, rfl⟩

set_option maxHeartbeats 3200000 in
set_option maxRecDepth 16384 in
theorem ends_err {w : World} {f fb base wk eb : Nat} {M : Mm} {root er : Int} {X : Nat → Prop} {U : List Und} (hM : MemAt w f fb M) (hW : WorkAt w base wk f root X U) (hU : U.length ≤ 1000) (he : w.cell? ⟨eb, 0, none⟩ = some (.int .i64 er)) (her : er ≠ 0) :
    CallsDIn Fence.wide 0 Try.prog 83 #[.pointer (some ⟨wk, 0, none⟩), .pointer (some ⟨eb, 0, none⟩)] .returning w fun e u' w' => u' = .returning ∧ ((∃ v, e = .returned v) ∧ MemAt w' f fb (M.undo root U.reverse) ∧ Same (· = fb) w w') := by
  have hne : wk ≠ fb := fun e => by
    obtain ⟨n, hn⟩ := hM.sh
    rw [← e, hW.sh] at hn
    cases hn
  have hlt := hM.lt
  obtain ⟨v, vs, c2, hown, hund⟩ := hW.c2
  obtain ⟨va, vc, rfl⟩ := own_slice hown
  obtain ⟨fs, hfs⟩ := funcs_of U vs (by rw [hown.1]; omega) hund
  subst hfs
  have hfl : fs.length = U.length := by have := hown.1; rw [List.length_map] at this; omega
  have hb : (er == 0) = false := by simpa using her
  have c0 := hW.c0
  have c1 := hW.c1
  have H := Lib.hid (And.intro hM (And.intro hown hund))
  have hshk := hW.sh
  obtain ⟨fn, hfn⟩ := hM.sh
  clear hM hW hown hund her
  refine callsDIn_of_wp_marks rfl Try.func83 rfl trivial ?_
  simp only [Try.ntmps83, List.size_toArray, List.length_cons, List.length_nil, Nat.reduceAdd, Nat.reduceSub, Array.replicate_succ, Array.replicate_zero, List.push_toArray, List.append_toArray, List.nil_append, List.cons_append]
  gi_wp2_with (gi_at_call 111; refine CallsIn.mono (callsIn_wide.2 (backward_any _ _ _ _)) ?_; rintro e w' ⟨rfl, rfl⟩)
  refine range_wide (gf := 124) (lb := #[.pointer (some ⟨w.heap.size, 0, none⟩)]) rfl (enters_of Try.func124 (by kernel_rfl) rfl) ?_
  intro rec D L W1 hD hL hrule hs1 hl1 hd1 hrec
  simp only [World.size_alloc] at hD
  have hs01 : Same (fun _ => False) w W1 := (same_alloc _).trans hs1
  have b1 : W1.cell? ⟨w.heap.size, 0, none⟩ = some (.slice va U.length vc) := hs1.cell (by simp) (by simp)
  have hL1 := (Array.getElem?_eq_some_iff.1 hl1).1
  refine Calls.mono (backward1 L w.heap.size U.length vc va fs (fun i W => W.cell? ⟨w.heap.size, 0, none⟩ = some (.slice va U.length vc) ∧ W.ownsRow base 1 1 (.slice va U.length vc) U.length (fs.map fun x => .func x.1 #[] x.2) ∧
      (∀ (i : Nat) (u : Und), U[i]? = some u → ∃ x : Value, (fs.map fun x => Value.func x.1 #[] x.2)[i]? = some x ∧ UndoOk W wk f root X u x) ∧
      W.cell? ⟨wk, 0, none⟩ = some (.pointer (some ⟨f, 0, none⟩)) ∧ W.cell? ⟨wk, 1, none⟩ = some (.int .i64 root) ∧ MemAt W f fb (M.undo root (U.reverse.take i)) ∧ Same (fun k => k = fb ∨ w.heap.size ≤ k) w W ∧ W.heap[L]? = some (rec .ready none) ∧ W.heap[D]? = some (.deferred (some [])))
    hfl (by omega) ?_ ?_ W1 ⟨b1, ownsRow_same H.out.2.1 hs01 (by simp), fun i u hi => ?_, hs01.cell c0 (by simp), hs01.cell c1 (by simp), H.out.1.same0 hs01, hs01.mono (fun _ _ h => h.elim), hl1, hd1⟩) ?_
  · rintro i W ⟨q1, q2, -⟩
    refine ⟨q1, fun j x hx => ?_⟩
    rcases q2.2 with ⟨hv, h0⟩ | ⟨g, cap, cur, hv, _, hg, _⟩
    · have := (List.getElem?_eq_some_iff.1 hx).1
      omega
    · cases hv
      refine ⟨g, rfl, ?_⟩
      have h := World.ownsRow.cells (g := g) q2 rfl j (.func x.1 #[] x.2) (by rw [List.getElem?_map, hx]; rfl)
      have e : (⟨g, 0, none⟩ : Addr).add j = ⟨g, j, none⟩ := by
        unfold Addr.add
        by_cases hj : j = 0
        · subst hj; rfl
        · simp [hj]
      rwa [e] at h
  · rintro i W ⟨xf, xc⟩ hi ⟨q1, q2, q3, q4, q5, q6, q7, q8, q9⟩ hx
    have hux : ∃ u, U[U.length - 1 - i]? = some u := by rw [List.getElem?_eq_getElem (by omega)]; exact ⟨_, rfl⟩
    obtain ⟨u, hu⟩ := hux
    have hst : M.undo root (U.reverse.take (i + 1)) = (M.undo root (U.reverse.take i)).undo1 root u := by
      have hr : U.reverse[i]? = some u := by rw [List.getElem?_reverse (by omega)]; exact hu
      rw [List.take_add_one, hr, Option.toList_some, Mm.undo_snoc]
    obtain ⟨x', hx', hok⟩ := q3 _ u hu
    rw [List.getElem?_map, hx] at hx'
    simp only [Option.map_some, Option.some.injEq] at hx'
    subst hx'
    obtain ⟨N, hN⟩ : ∃ N, N = M.undo root (U.reverse.take i) := ⟨_, rfl⟩
    rw [← hN] at q6 hst
    have HST := Lib.hid hst
    have HN := Lib.hid hN
    have hwb := World.block_lt_of_cell? _ _ q1
    simp only at hwb
    have hLN : ∀ k, W.shape? L = some k → False := fun k h => by
      have := shape_none q8 (hrec .ready none)
      rw [this] at h; cases h
    have hbL : ∀ g t n, W.shape? g = some (t, n) → g ≠ L := fun g t n h e => hLN _ (e ▸ h)
    have hwkL : wk ≠ L := hbL wk 151 3 ((q7.shp _ (World.block_lt_of_cell? _ _ c0)).trans hshk)
    have hfbL : fb ≠ L := hbL fb 135 fn ((q7.shp _ hlt.2).trans hfn)
    have hfL : f ≠ L := by
      obtain ⟨n, hn⟩ := q6.sf
      exact hbL f 102 n hn
    have hsafe : ∀ k, k = L → Safe W X k := fun k h => .inr fun t n ht => (hbL k t n ht h).elim
    refine hrule W _ _ q8 rfl ?_
    gi_wp2
    intro W2 hs2 hz2 hl2
    have hWL := (Array.getElem?_eq_some_iff.1 q8).1
    have hWD := (Array.getElem?_eq_some_iff.1 q9).1
    have p1 := hs2.cell q1 (by simp; omega)
    have p2 := ownsRow_same q2 hs2 (fun g hg e => by
      obtain ⟨_, _, n, hn⟩ := ownsRow_shape q2 hg
      exact hbL g _ _ hn e)
    have p3 : ∀ (i : Nat) (u : Und), U[i]? = some u → ∃ x : Value, (fs.map fun x => Value.func x.1 #[] x.2)[i]? = some x ∧ UndoOk W2 wk f root X u x := fun i u hi => by
      obtain ⟨x, hx, hok⟩ := q3 i u hi
      exact ⟨x, hx, hok.same hs2 hsafe⟩
    have p4 := hs2.cell q4 hwkL
    have p5 := hs2.cell q5 hwkL
    have p6 := q6.same hs2 hfL hfbL
    have p7 := q7.trans (hs2.mono (T := fun k => k = fb ∨ w.heap.size ≤ k) (fun k _ e => by omega))
    have p9 := hs2.block q9 (by omega)
    obtain ⟨k, rfl, hk, hcs, hclo⟩ := undo_clo p6 p4 p5 hne (hok.same hs2 hsafe)
    have HP := Lib.hid (And.intro p2 (And.intro p3 p6))
    clear p2 p3 p6 q1 q2 q3 q4 q5 q6 q7 q8 q9 hok hN hst
    have hen : (callFunc k xc).run Try.prog W2 = .ok (.enter k xc) W2 := by
      rcases hk with rfl | rfl
      · exact enters_of Try.func109 (by kernel_rfl) rfl xc W2
      · exact enters_of Try.func125 (by kernel_rfl) rfl xc W2
    gi_wp2_with fail
    refine CallsIn.mono (CallsIn.inRound L (callsIn_wide.2 hclo)) ?_
    rintro e W4 ⟨rfl, hM4, hs4⟩
    have r1 := hs4.cell p1 (by simp; omega)
    have r2 := ownsRow_same HP.out.1 hs4 (fun g hg e => by
      obtain ⟨_, _, n, hn⟩ := ownsRow_shape HP.out.1 hg
      obtain ⟨m, hm⟩ := HP.out.2.2.sh
      rw [e, hm] at hn; cases hn)
    have hsafe4 : ∀ k, k = fb → Safe W2 X k := fun k h => by
      subst h
      exact (free_135 HP.out.2.2).safe
    have r3 : ∀ (i : Nat) (u : Und), U[i]? = some u → ∃ x : Value, (fs.map fun x => Value.func x.1 #[] x.2)[i]? = some x ∧ UndoOk W4 wk f root X u x := fun i u hi => by
      obtain ⟨x, hx, hok⟩ := HP.out.2.1 i u hi
      exact ⟨x, hx, hok.same hs4 hsafe4⟩
    have r4 := hs4.cell p4 hne
    have r5 := hs4.cell p5 hne
    have r7 := p7.trans (hs4.mono (T := fun k => k = fb ∨ w.heap.size ≤ k) (fun k _ e => .inl e))
    have r8 := hs4.block hl2 (fun e => hfbL e.symm)
    have r9 := hs4.block p9 (by omega)
    have HR := Lib.hid (And.intro r1 (And.intro r2 (And.intro r3 (And.intro r4 (And.intro r5 (And.intro hM4 (And.intro r7 r9)))))))
    have hz4 := hs4.size
    have hLN4 : ∀ g t n, W4.shape? g = some (t, n) → g ≠ L := fun g t n h e => by
      have := shape_none r8 (hrec .busy none)
      rw [e, this] at h; cases h
    have HL4 := Lib.hid hLN4
    clear hclo hen hsafe4 hs4 hM4 r1 r2 r3 r4 r5 r7 r9 hLN4 hl2 p1 p4 p5 p7 p9 hs2 hz2 hbL hLN hsafe HP
    gi_wp2
    refine ⟨r8, fun W5 hs5 hz5 hl5 => ?_⟩
    obtain ⟨r1, r2, r3, r4, r5, r6, r7, r9⟩ := HR.out
    refine ⟨rfl, hs5.cell r1 (by simp; omega), ownsRow_same r2 hs5 (fun g hg e => ?_), fun i u hi => ?_, hs5.cell r4 hwkL, hs5.cell r5 hwkL, ?_, r7.trans (hs5.mono (T := fun k => k = fb ∨ w.heap.size ≤ k) (fun k _ e => by omega)), hl5, hs5.block r9 (by omega)⟩
    · obtain ⟨_, _, n, hn⟩ := ownsRow_shape r2 hg
      exact HL4.out g _ _ hn e
    · obtain ⟨x, hx, hok⟩ := r3 i u hi
      exact ⟨x, by simpa using hx, hok.same hs5 fun k h => .inr fun t n ht => (HL4.out k t n ht h).elim⟩
    · rw [← HN.out]; exact r6.same hs5 hfL hfbL
  · obtain ⟨x, hx, hok⟩ := H.out.2.2 i u hi
    exact ⟨x, hx, hok.same hs01 (fun _ h => h.elim)⟩
  · rintro e W ⟨⟨v, rfl⟩, q1, q2, q3, q4, q5, q6, q7, q8, q9⟩
    refine ⟨⟨_, rfl⟩, .inl ⟨q8, fun W2 hs2 _ => ?_⟩⟩
    have hbL : ∀ g t n, W.shape? g = some (t, n) → g ≠ L := fun g t n h e => by
      have := shape_none q8 (hrec .ready none)
      rw [e, this] at h; cases h
    have hfb : fb ≠ L := by obtain ⟨n, hn⟩ := q6.sh; exact hbL _ _ _ hn
    have hf : f ≠ L := by obtain ⟨n, hn⟩ := q6.sf; exact hbL _ _ _ hn
    have hM2 := q6.same hs2 hf hfb
    have hd2 := hs2.block q9 (by omega)
    have hs3 := q7.trans (hs2.mono (T := fun k => k = fb ∨ w.heap.size ≤ k) (fun k _ e => by omega))
    refine marks_one hd2 fun W5 hs6 _ => ⟨results_none rfl _ _ _, ⟨_, rfl⟩, ?_, ?_⟩
    · rw [List.take_of_length_le (by simp)] at hM2
      exact hM2.same hs6 (by omega) (by omega)
    · exact (hs3.trans (hs6.mono (fun k _ e => by omega))).mono (fun k hk h => by omega)
end Go.Proofs.Ytlbgnmcjdmdjpaa
/- Package space: Grow. -/
namespace Go.Proofs.Ytlbgnmcjdmdjpaa
open Go.RowKit Go.Shelf
attribute [local go_sem] Oper.semAt_some

def Mm.growU (root : Int) : Mm → List Und → List Int → Mm × Int
  | M, _, [] => (M, 0)
  | M, U, p :: r => if (M.fresh root p 3).2.2 = 0 then Mm.growU root (M.fresh root p 3).1 (U ++ [.page p]) r else ((M.fresh root p 3).1.undo root U.reverse, 11)
def Mm.cutL (root : Int) : Mm → List Int → Mm
  | M, [] => M
  | M, p :: r => Mm.cutL root (M.unmaps root p) r
def Spc.end_ (s : Spc) : Int := s.text + s.data + s.heap
def upFrom (a : Int) (n : Nat) : List Int := (List.range n).map fun (i : Nat) => a + (i : Int)
def downFrom (a : Int) (n : Nat) : List Int := (List.range n).map fun (i : Nat) => a - (i : Int)
def Mm.grow (M : Mm) (s : Spc) (n : Int) : Mm × Int :=
  if n < -s.heap ∨ 128 - s.end_ < n then (M, 2)
  else if (Mm.growU s.root M [] (upFrom s.end_ n.toNat)).2 = 0 then (Mm.cutL s.root (Mm.growU s.root M [] (upFrom s.end_ n.toNat)).1 (downFrom (s.end_ - 1) (-n).toNat), 0)
  else Mm.growU s.root M [] (upFrom s.end_ n.toNat)
/-- The bounds that a space keeps. -/
structure Spc.Ok (s : Spc) : Prop where
  t0 : 0 ≤ s.text
  d0 : 0 ≤ s.data
  h0 : 0 ≤ s.heap
  e1 : s.end_ ≤ 128
  al : s.atts.length ≤ 500

theorem WorkAt.base {w : World} {base base' wk f : Nat} {root : Int} {X : Nat → Prop} {U : List Und} (h : WorkAt w base wk f root X U) (hb : base' ≤ base) : WorkAt w base' wk f root X U := by
  obtain ⟨v, vs, h1, h2, h3⟩ := h.c2
  exact ⟨h.c0, h.c1, ⟨v, vs, h1, ownsRow_base h2 hb, h3⟩, h.fz, h.sh, Nat.le_trans hb h.hb⟩
/-- Work at a root that is there. -/
theorem of_work {w : World} {f fb : Nat} {M : Mm} (hM : MemAt w f fb M) (s : Spc) (va : Option Addr) (n vc : Nat) :
    Calls Try.prog 86 #[.pointer (some ⟨f, 0, none⟩), s.val (.slice va n vc)] w fun e w' => ∃ wk, w.heap.size ≤ wk ∧ e = .returned (.pointer (some ⟨wk, 0, none⟩)) ∧ WorkAt w' w.heap.size wk f s.root (fun x => x < w'.heap.size) [] ∧ Same (fun _ => False) w w' := by
  unfold Spc.val
  go_enter Try.func86, Try.ntmps86
  go_wp2
  refine bodyPost_ret (results_tmp rfl _ _ _) rfl ⟨w.heap.size + 1, by omega, rfl, ?_, (same_alloc _).alloc _⟩
  refine ⟨by simp [go_sem], by simp [go_sem], ⟨.slice none 0 0, [], by simp [go_sem], World.ownsRow_nil _ _ _ _, fun i u hu => by simp at hu⟩, fun o => by simp [go_sem], ?_, by simp⟩
  simp only [shape_alloc, World.size_alloc]; rfl

theorem results_ctc {fn : Func} {p q r : Tmp} {t u : TypeId} (h : fn.results = #[.cell p t, .tmp q, .cell r u]) {tmps : Array Value} {P : Program} {w : World} {a b : Addr} {x y : Value} (hp : tmps.getD p undef = .pointer (some a)) (hq : tmps.getD r undef = .pointer (some b))
    (h1 : (loadVar t a).run P w = .ok x w) (h2 : (loadVar u b).run P w = .ok y w) : (results fn tmps).run P w = .ok (.tuple #[x, tmps.getD q undef, y]) w := by
  have e1 : (asAddr (tmps.getD p undef)).run P w = .ok a w := by rw [hp]; simp [asAddr]
  have e2 : (asAddr (tmps.getD r undef)).run P w = .ok b w := by rw [hq]; simp [asAddr]
  rw [Array.getD_eq_getD_getElem?] at e1 e2
  simp only [results, h]
  simp [Sem.run_bind, Result.andThen, e1, e2, h1, h2]
theorem results_ct {fn : Func} {p q : Tmp} {t : TypeId} (h : fn.results = #[.cell p t, .tmp q]) {tmps : Array Value} {P : Program} {w : World} {a : Addr} {x : Value} (hp : tmps.getD p undef = .pointer (some a))
    (h1 : (loadVar t a).run P w = .ok x w) : (results fn tmps).run P w = .ok (.tuple #[x, tmps.getD q undef]) w := by
  have e1 : (asAddr (tmps.getD p undef)).run P w = .ok a w := by rw [hp]; simp [asAddr]
  rw [Array.getD_eq_getD_getElem?] at e1
  simp only [results, h]
  simp [Sem.run_bind, Result.andThen, e1, h1]
theorem cell_block {w A : World} {b : Nat} (h : w.heap[b]? = A.heap[b]?) (o : Nat) : w.cell? ⟨b, o, none⟩ = A.cell? ⟨b, o, none⟩ := by unfold World.cell?; rw [h]
theorem frozen_block {w A : World} {b : Nat} (h : w.heap[b]? = A.heap[b]?) (o : Nat) : w.frozen? ⟨b, o, none⟩ = A.frozen? ⟨b, o, none⟩ := by unfold World.frozen?; rw [h]
/-- A block's five cells, not frozen. -/
structure Five (w : World) (b : Nat) (v0 v1 v2 v3 v4 : Value) : Prop where
  c0 : w.cell? ⟨b, 0, none⟩ = some v0
  c1 : w.cell? ⟨b, 1, none⟩ = some v1
  c2 : w.cell? ⟨b, 2, none⟩ = some v2
  c3 : w.cell? ⟨b, 3, none⟩ = some v3
  c4 : w.cell? ⟨b, 4, none⟩ = some v4
  fz : ∀ o, w.frozen? ⟨b, o, none⟩ = false
theorem Five.block {w A : World} {b : Nat} {v0 v1 v2 v3 v4 : Value} (h : Five A b v0 v1 v2 v3 v4) (hb : w.heap[b]? = A.heap[b]?) : Five w b v0 v1 v2 v3 v4 :=
  ⟨(cell_block hb _).trans h.c0, (cell_block hb _).trans h.c1, (cell_block hb _).trans h.c2, (cell_block hb _).trans h.c3, (cell_block hb _).trans h.c4, fun o => (frozen_block hb o).trans (h.fz o)⟩
theorem Five.same {w w' : World} {b : Nat} {v0 v1 v2 v3 v4 : Value} {S : Nat → Prop} (h : Five w b v0 v1 v2 v3 v4) (hs : Same S w w') (hb : ¬ S b) : Five w' b v0 v1 v2 v3 v4 :=
  h.block (hs.old b (World.block_lt_of_cell? _ _ h.c0) hb)
theorem wf_free {fb base wk : Nat} {w : World} {b : Nat} {t : TypeId} {n : Nat} (hs : w.shape? b = some (t, n)) (h1 : b ≠ fb) (h2 : b ≠ wk) (ht : t ≠ 1) : ¬ Wf fb base wk w b := by
  rintro (h | h | ⟨_, m, h⟩)
  · exact h1 h
  · exact h2 h
  · rw [hs] at h; cases h; exact ht rfl

theorem upFrom_drop (a : Int) (n k : Nat) (h : k < n) : (upFrom a n).drop k = (a + k) :: (upFrom a n).drop (k + 1) := by
  rw [List.drop_eq_getElem_cons (by simp [upFrom]; exact h)]
  simp [upFrom]
theorem downFrom_drop (a : Int) (n k : Nat) (h : k < n) : (downFrom a n).drop k = (a - k) :: (downFrom a n).drop (k + 1) := by
  rw [List.drop_eq_getElem_cons (by simp [downFrom]; exact h)]
  simp [downFrom]
theorem Mm.maps_err (M : Mm) (r p fr fl : Int) : (M.maps r p fr fl).2 = 0 ∨ (M.maps r p fr fl).2 = 11 := by
  unfold Mm.maps; split
  · exact .inl rfl
  · exact .inr rfl
theorem Mm.fresh_err (M : Mm) (r p fl : Int) : (M.fresh r p fl).2.2 = 0 ∨ (M.fresh r p fl).2.2 = 11 := by
  unfold Mm.fresh; split
  · exact .inr rfl
  · exact Mm.maps_err _ _ _ _ _
theorem free_shape {w : World} {X : Nat → Prop} {b : Nat} {t : TypeId} {n : Nat} (h : w.shape? b = some (t, n)) (ht : t ≠ 24 ∧ t ≠ 3 ∧ t ≠ 144 ∧ t ≠ 151 ∧ t ≠ 1) : Free w X b :=
  .inr fun t' m h' => by rw [h] at h'; cases h'; exact ht
theorem cell_drew' (w : World) (a : Addr) : w.drew.cell? a = w.cell? a := rfl
/-- The stores of a space and of an error. -/
theorem put5e {w W : World} {b e : Nat} {u0 u1 u2 u3 u4 v0 v1 v2 v3 v4 ue ve : Value} (hW : W = ((((((w.setCell ⟨b, 0, none⟩ v0).setCell ⟨b, 1, none⟩ v1).setCell ⟨b, 2, none⟩ v2).setCell ⟨b, 3, none⟩ v3).setCell ⟨b, 4, none⟩ v4).setCell ⟨e, 0, none⟩ ve).drew)
    (h0 : w.cell? ⟨b, 0, none⟩ = some u0) (h1 : w.cell? ⟨b, 1, none⟩ = some u1) (h2 : w.cell? ⟨b, 2, none⟩ = some u2) (h3 : w.cell? ⟨b, 3, none⟩ = some u3) (h4 : w.cell? ⟨b, 4, none⟩ = some u4) (he : w.cell? ⟨e, 0, none⟩ = some ue) (hne : b ≠ e) :
    (W.cell? ⟨b, 0, none⟩ = some v0 ∧ W.cell? ⟨b, 1, none⟩ = some v1 ∧ W.cell? ⟨b, 2, none⟩ = some v2 ∧ W.cell? ⟨b, 3, none⟩ = some v3 ∧ W.cell? ⟨b, 4, none⟩ = some v4) ∧ W.cell? ⟨e, 0, none⟩ = some ve ∧ Same (fun k => k = e ∨ k = b) w W := by
  subst hW
  obtain ⟨p0, p1, p2, p3, p4⟩ := put5 (v0 := v0) (v1 := v1) (v2 := v2) (v3 := v3) (v4 := v4) h0 h1 h2 h3 h4
  have hse : (((((w.setCell ⟨b, 0, none⟩ v0).setCell ⟨b, 1, none⟩ v1).setCell ⟨b, 2, none⟩ v2).setCell ⟨b, 3, none⟩ v3).setCell ⟨b, 4, none⟩ v4).cell? ⟨e, 0, none⟩ = some ue := by
    repeat rw [World.cell?_setCell_other _ _ _ _ (by simp [hne])]
    exact he
  have sP : Same (fun k => k = e ∨ k = b) w (((((w.setCell ⟨b, 0, none⟩ v0).setCell ⟨b, 1, none⟩ v1).setCell ⟨b, 2, none⟩ v2).setCell ⟨b, 3, none⟩ v3).setCell ⟨b, 4, none⟩ v4) :=
    (((((Same.refl _ _).setCell _ (.inr (.inr rfl))).setCell _ (.inr (.inr rfl))).setCell _ (.inr (.inr rfl))).setCell _ (.inr (.inr rfl))).setCell _ (.inr (.inr rfl))
  generalize (((((w.setCell ⟨b, 0, none⟩ v0).setCell ⟨b, 1, none⟩ v1).setCell ⟨b, 2, none⟩ v2).setCell ⟨b, 3, none⟩ v3).setCell ⟨b, 4, none⟩ v4) = P at *
  have ho : ∀ o u, P.cell? ⟨b, o, none⟩ = some u → (P.setCell ⟨e, 0, none⟩ ve).drew.cell? ⟨b, o, none⟩ = some u := fun o u h => by
    rw [cell_drew', World.cell?_setCell_other _ _ _ _ (by simp [Ne.symm hne])]; exact h
  exact ⟨⟨ho _ _ p0, ho _ _ p1, ho _ _ p2, ho _ _ p3, ho _ _ p4⟩, by rw [cell_drew']; exact World.cell?_setCell_same _ _ _ hse, (sP.setCell _ (.inr (.inl rfl))).drew⟩
/-- The like without a draw. -/
theorem put5f {w W : World} {b e : Nat} {u0 u1 u2 u3 u4 v0 v1 v2 v3 v4 ue ve : Value} (hW : W = ((((((w.setCell ⟨b, 0, none⟩ v0).setCell ⟨b, 1, none⟩ v1).setCell ⟨b, 2, none⟩ v2).setCell ⟨b, 3, none⟩ v3).setCell ⟨b, 4, none⟩ v4).setCell ⟨e, 0, none⟩ ve))
    (h0 : w.cell? ⟨b, 0, none⟩ = some u0) (h1 : w.cell? ⟨b, 1, none⟩ = some u1) (h2 : w.cell? ⟨b, 2, none⟩ = some u2) (h3 : w.cell? ⟨b, 3, none⟩ = some u3) (h4 : w.cell? ⟨b, 4, none⟩ = some u4) (he : w.cell? ⟨e, 0, none⟩ = some ue) (hne : b ≠ e) :
    (W.cell? ⟨b, 0, none⟩ = some v0 ∧ W.cell? ⟨b, 1, none⟩ = some v1 ∧ W.cell? ⟨b, 2, none⟩ = some v2 ∧ W.cell? ⟨b, 3, none⟩ = some v3 ∧ W.cell? ⟨b, 4, none⟩ = some v4) ∧ W.cell? ⟨e, 0, none⟩ = some ve ∧ Same (fun k => k = e ∨ k = b) w W := by
  subst hW
  obtain ⟨p0, p1, p2, p3, p4⟩ := put5 (v0 := v0) (v1 := v1) (v2 := v2) (v3 := v3) (v4 := v4) h0 h1 h2 h3 h4
  have hse : (((((w.setCell ⟨b, 0, none⟩ v0).setCell ⟨b, 1, none⟩ v1).setCell ⟨b, 2, none⟩ v2).setCell ⟨b, 3, none⟩ v3).setCell ⟨b, 4, none⟩ v4).cell? ⟨e, 0, none⟩ = some ue := by
    repeat rw [World.cell?_setCell_other _ _ _ _ (by simp [hne])]
    exact he
  have sP : Same (fun k => k = e ∨ k = b) w (((((w.setCell ⟨b, 0, none⟩ v0).setCell ⟨b, 1, none⟩ v1).setCell ⟨b, 2, none⟩ v2).setCell ⟨b, 3, none⟩ v3).setCell ⟨b, 4, none⟩ v4) :=
    (((((Same.refl _ _).setCell _ (.inr (.inr rfl))).setCell _ (.inr (.inr rfl))).setCell _ (.inr (.inr rfl))).setCell _ (.inr (.inr rfl))).setCell _ (.inr (.inr rfl))
  generalize (((((w.setCell ⟨b, 0, none⟩ v0).setCell ⟨b, 1, none⟩ v1).setCell ⟨b, 2, none⟩ v2).setCell ⟨b, 3, none⟩ v3).setCell ⟨b, 4, none⟩ v4) = P at *
  have ho : ∀ o u, P.cell? ⟨b, o, none⟩ = some u → (P.setCell ⟨e, 0, none⟩ ve).cell? ⟨b, o, none⟩ = some u := fun o u h => by
    rw [World.cell?_setCell_other _ _ _ _ (by simp [Ne.symm hne])]; exact h
  exact ⟨⟨ho _ _ p0, ho _ _ p1, ho _ _ p2, ho _ _ p3, ho _ _ p4⟩, World.cell?_setCell_same _ _ _ hse, sP.setCell _ (.inr (.inl rfl))⟩
/-- The result of a space and an error (cell b: e; cells at r: the space). -/
abbrev noSpc : Value := .agg #[.int .i64 0, .int .i64 0, .int .i64 0, .int .i64 0, .slice none 0 0]

set_option maxHeartbeats 3200000 in
set_option maxRecDepth 16384 in
theorem grow_any {w : World} {f fb : Nat} {M : Mm} (hM : MemAt w f fb M) (s : Spc) (v : Value) (hv : AttO w v s.atts) (hok : s.Ok) (n : Int) (hn : In64 n) :
    Calls Try.prog 48 #[.pointer (some ⟨f, 0, none⟩), s.val v, .int .i64 n] w fun e w' => MemAt w' f fb (M.grow s n).1 ∧ Same (· = fb) w w' ∧
      (((M.grow s n).2 = 0 ∧ ∃ v', e = .returned (.tuple #[({ s with heap := s.heap + n } : Spc).val v', .int .i64 (64 * s.end_), .int .i64 0]) ∧ AttO w' v' s.atts) ∨
      ((M.grow s n).2 ≠ 0 ∧ e = .returned (.tuple #[noSpc, .int .i64 0, .int .i64 (M.grow s n).2]))) := by
  obtain ⟨va, vc, rfl⟩ := own_slice hv
  obtain ⟨R, hR⟩ : ∃ R, R = M.grow s n := ⟨_, rfl⟩
  rw [← hR]
  obtain ⟨h1, h2, h3, h4, h5⟩ := hok
  have hlt := hM.lt
  have hM0 := Lib.hid hlt
  unfold Spc.end_ at h4
  have hw1 : IntKind.i64.wrap (s.text + s.data) = s.text + s.data := by rw [IntKind.wrap_i64]; omega
  by_cases hbad : n < -s.heap ∨ 128 - s.end_ < n
  · have hm : R = (M, 2) := by rw [hR]; unfold Mm.grow; rw [if_pos hbad]
    unfold Spc.end_ at hbad
    have hb : (decide (n < -s.heap) || decide (128 - (s.text + s.data + s.heap) < n)) = true := by simpa using hbad
    have H := Lib.hid (And.intro hM (And.intro hv hm))
    clear hR hM hv hm
    unfold Spc.val
    go_enter_defers Try.func48, Try.ntmps48
    by_cases hb1 : n < -s.heap
    · have hb1' : decide (n < -s.heap) = true := by simpa using hb1
      go_wp2
      obtain ⟨hM, hv, hm⟩ := H.out
      have hsA := (((same_alloc (W := w) (.cells #[.int .i64 s.root, .int .i64 s.text, .int .i64 s.data, .int .i64 s.heap, .slice va s.atts.length vc] 75)).alloc (.cells #[.int .i64 0, .int .i64 0, .int .i64 0, .int .i64 0, .slice none 0 0] 75)).alloc (.cells #[.int .i64 2] 25))
      rw [hm]
      exact ⟨_, results_ctc rfl (by rfl) (by rfl) (loadVar75 _ _ _ _ _ _ _ (by simp [go_sem]) (by simp [go_sem]) (by simp [go_sem]) (by simp [go_sem]) (by simp [go_sem])) (loadVar25 _ _ _ (by simp [go_sem])), hM.same0 hsA, hsA.mono (fun _ _ h => h.elim), .inr ⟨by simp, rfl⟩⟩
    · have hb1' : decide (n < -s.heap) = false := by simpa using hb1
      have hb2' : decide (128 - (s.text + s.data + s.heap) < n) = true := by simp; omega
      clear hbad
      go_wp2
      obtain ⟨hM, hv, hm⟩ := H.out
      have hsA := (((same_alloc (W := w) (.cells #[.int .i64 s.root, .int .i64 s.text, .int .i64 s.data, .int .i64 s.heap, .slice va s.atts.length vc] 75)).alloc (.cells #[.int .i64 0, .int .i64 0, .int .i64 0, .int .i64 0, .slice none 0 0] 75)).alloc (.cells #[.int .i64 2] 25))
      rw [hm]
      exact ⟨_, results_ctc rfl (by rfl) (by rfl) (loadVar75 _ _ _ _ _ _ _ (by simp [go_sem]) (by simp [go_sem]) (by simp [go_sem]) (by simp [go_sem]) (by simp [go_sem])) (loadVar25 _ _ _ (by simp [go_sem])), hM.same0 hsA, hsA.mono (fun _ _ h => h.elim), .inr ⟨by simp, rfl⟩⟩
  · have hng : -s.heap ≤ n ∧ n ≤ 128 - s.end_ := by omega
    have hm : R = if (Mm.growU s.root M [] (upFrom s.end_ n.toNat)).2 = 0 then (Mm.cutL s.root (Mm.growU s.root M [] (upFrom s.end_ n.toNat)).1 (downFrom (s.end_ - 1) (-n).toNat), 0) else Mm.growU s.root M [] (upFrom s.end_ n.toNat) := by rw [hR]; unfold Mm.grow; rw [if_neg hbad]
    have hen : s.end_ = s.text + s.data + s.heap := rfl
    have hb1' : decide (n < -s.heap) = false := by simp; omega
    have hb2' : decide (128 - (s.text + s.data + s.heap) < n) = false := by simp; omega
    rw [hen] at hm hng
    have HM := Lib.hid (And.intro hm hen)
    obtain ⟨A, hA⟩ : ∃ A, A = ((w.alloc (.cells #[.int .i64 s.root, .int .i64 s.text, .int .i64 s.data, .int .i64 s.heap, .slice va s.atts.length vc] 75)).alloc (.cells #[.int .i64 0, .int .i64 0, .int .i64 0, .int .i64 0, .slice none 0 0] 75)).alloc (.cells #[.int .i64 0] 25) := ⟨_, rfl⟩
    have hsA : Same (fun _ => False) w A := by rw [hA]; exact ((same_alloc _).alloc _).alloc _
    have S0 : Five A w.heap.size (.int .i64 s.root) (.int .i64 s.text) (.int .i64 s.data) (.int .i64 s.heap) (.slice va s.atts.length vc) := by
      rw [hA]; exact ⟨by simp [go_sem], by simp [go_sem], by simp [go_sem], by simp [go_sem], by simp [go_sem], fun o => by simp [go_sem]⟩
    have R0 : Five A (w.heap.size + 1) (.int .i64 0) (.int .i64 0) (.int .i64 0) (.int .i64 0) (.slice none 0 0) := by
      rw [hA]; exact ⟨by simp [go_sem], by simp [go_sem], by simp [go_sem], by simp [go_sem], by simp [go_sem], fun o => by simp [go_sem]⟩
    have e0 : A.cell? ⟨w.heap.size + 1 + 1, 0, none⟩ = some (.int .i64 0) := by rw [hA]; simp [go_sem]
    have ez : A.frozen? ⟨w.heap.size + 1 + 1, 0, none⟩ = false := by rw [hA]; simp [go_sem]
    have s0 : A.shape? w.heap.size = some (75, 5) := by rw [hA]; simp only [shape_alloc, World.size_alloc]; rw [if_neg (by omega), if_neg (by omega)]; rfl
    have s1 : A.shape? (w.heap.size + 1) = some (75, 5) := by rw [hA]; simp only [shape_alloc, World.size_alloc]; rw [if_neg (by omega)]; rfl
    have s2 : A.shape? (w.heap.size + 1 + 1) = some (25, 1) := by rw [hA]; simp only [shape_alloc, World.size_alloc]; rfl
    have hzA : A.heap.size = w.heap.size + 1 + 1 + 1 := by rw [hA]; simp
    have hof := of_work (hM.same0 hsA) s va s.atts.length vc
    rw [hA] at hof
    have H := Lib.hid (And.intro hM (And.intro hv (And.intro hsA (And.intro S0 (And.intro R0 (And.intro e0 (And.intro ez (And.intro s0 (And.intro s1 s2)))))))))
    have HA := Lib.hid hA
    clear hR hM hv hm hbad hen hsA S0 R0 e0 ez s0 s1 s2 hA
    unfold Spc.val at hof ⊢
    go_enter_defers Try.func48, Try.ntmps48
    go_wp2_with fail
    refine hof.mono ?_
    rintro e w1 ⟨wk, hwk, rfl, hW1, hs1⟩
    rw [← HA.out] at hs1 hwk
    obtain ⟨hM, hv, hsA, S0, R0, e0, ez, s0, s1, s2⟩ := H.out
    have hnk : wk ≠ fb := by have := hM.lt; omega
    have hz1 := hs1.size
    have hS : w1.heap[w.heap.size]? = A.heap[w.heap.size]? := hs1.old _ (by omega) (by simp)
    have hR0 : w1.heap[w.heap.size + 1]? = A.heap[w.heap.size + 1]? := hs1.old _ (by omega) (by simp)
    have g0 := hs1.cell e0 (by simp)
    have gz := hs1.unfrozen e0 ez (by simp)
    have hsw1 := hsA.trans hs1
    have hM1 := hM.same0 hsw1
    obtain ⟨L, hL⟩ : ∃ L, L = upFrom (s.text + s.data + s.heap) n.toNat := ⟨_, rfl⟩
    have hE1 := World.block_lt_of_cell? _ _ e0
    simp only at hE1
    have hloc : ∀ b, b = w.heap.size ∨ b = w.heap.size + 1 ∨ b = w.heap.size + 1 + 1 → ∀ wr, Same (fun b => b = fb ∨ w.heap.size ≤ b) w1 wr → ¬ Wf fb w.heap.size wk wr b := fun b hb wr h => by
      have hsh : ∃ t n, A.shape? b = some (t, n) ∧ t ≠ 1 := by
        rcases hb with rfl | rfl | rfl
        · exact ⟨_, _, s0, by simp⟩
        · exact ⟨_, _, s1, by simp⟩
        · exact ⟨_, _, s2, by simp⟩
      obtain ⟨t, m, h1, h2⟩ := hsh
      exact wf_free (((h.shp b (by omega)).trans (hs1.shp b (by omega))).trans h1) (by omega) (by omega) h2
    have hLd : ∀ k : Nat, (k : Int) < n → L.drop k = (s.text + s.data + s.heap + k) :: L.drop (k + 1) := fun k hk => by rw [hL]; exact upFrom_drop _ _ _ (by omega)
    have hsh2 : w1.shape? (w.heap.size + 1 + 1) = some (25, 1) := (hs1.shp _ (by omega)).trans s2
    have HP := Lib.hid (And.intro hLd (And.intro hloc (And.intro hL hsh2)))
    clear hsh2
    have HA1 := Lib.hid hs1
    have hW2 : WorkAt w1 w.heap.size wk f s.root (fun x => x < w1.heap.size) [] := hW1.base (by simp; omega)
    clear hW1 hLd hloc hL hof hM hsA S0 R0 e0 ez s0 s1 s2 hs1
    go_wp2
    go_loopw [41] (fun p wr => ∃ (k : Nat) (M' : Mm) (U : List Und), (k : Int) ≤ max n 0 ∧ p = .int .i64 k ∧ MemAt wr f fb M' ∧ WorkAt wr w.heap.size wk f s.root (fun x => x < w1.heap.size) U ∧ U.length = k ∧ Mm.growU s.root M [] L = Mm.growU s.root M' U (L.drop k) ∧ Same (fun b => b = fb ∨ w.heap.size ≤ b) w1 wr ∧
      wr.heap[w.heap.size]? = A.heap[w.heap.size]? ∧ wr.heap[w.heap.size + 1]? = A.heap[w.heap.size + 1]? ∧ wr.cell? ⟨w.heap.size + 1 + 1, 0, none⟩ = some (.int .i64 0) ∧ wr.frozen? ⟨w.heap.size + 1 + 1, 0, none⟩ = false) (fun p _ => (n - intOf p).toNat)
    case atStart => exact ⟨0, M, [], by omega, rfl, hM1, hW2, rfl, rfl, Same.refl _ _, hS, hR0, g0, gz⟩
    case round =>
      obtain ⟨k, M', U, hk, rfl, q1, q2, q3, q4, q5, q6, q7, q8, q9⟩ := hrel
      clear g0 gz hM1 hW2 hS hR0
      by_cases hlt2 : (k : Int) < n
      · have hb : decide ((k : Int) < n) = true := by simpa using hlt2
        obtain ⟨hLd, hloc, hL, -⟩ := HP.out
        rw [hLd k hlt2, Mm.growU] at q4
        have hfa := fresh_any q1 q2 (fun x hx => by have := q5.size; omega) (by omega) (s.text + s.data + s.heap + k) 3 (by constructor <;> omega)
        obtain ⟨⟨M2, fr, er⟩, hF⟩ : ∃ x, x = M'.fresh s.root (s.text + s.data + s.heap + k) 3 := ⟨_, rfl⟩
        rw [← hF] at hfa q4
        simp only at hfa q4
        have HQ := Lib.hid (And.intro q4 (And.intro q5 (And.intro q6 q7)))
        have hE9 := World.block_lt_of_cell? _ _ q8
        simp only at hE9
        have hn1 := hloc (w.heap.size + 1 + 1) (by simp) _ q5
        have hn2 := hloc (w.heap.size + 1) (by simp) _ q5
        have hn3 := hloc w.heap.size (by simp) _ q5
        have hc8 : ∀ w4, Same (Wf fb w.heap.size wk wr) wr w4 → w4.cell? ⟨w.heap.size + 1 + 1, 0, none⟩ = some (.int .i64 0) ∧ w4.frozen? ⟨w.heap.size + 1 + 1, 0, none⟩ = false ∧ w4.heap[w.heap.size]? = A.heap[w.heap.size]? ∧ w4.heap[w.heap.size + 1]? = A.heap[w.heap.size + 1]? := fun w4 h4 =>
          ⟨h4.cell q8 hn1, h4.unfrozen q8 q9 hn1, (h4.old _ (by omega) hn3).trans q6, (h4.old _ (by omega) hn2).trans q7⟩
        have HC := Lib.hid @hc8
        have HF := Lib.hid hF
        clear hc8 hn1 hn2 hn3 q1 q2 q4 q5 q6 q7 hLd hloc hL hF
        go_wp2_with fail
        refine hfa.mono ?_
        rintro e w4 ⟨rfl, hM4, hW4, hs4⟩
        obtain ⟨r8, r9, r6, r7⟩ := HC.out w4 hs4
        by_cases he : er = 0
        · subst he
          go_wp2
          go_roundw
          case rel =>
            obtain ⟨q4, q5, q6, q7⟩ := HQ.out
            have hsE : Same (· = w.heap.size + 1 + 1) w4 (w4.setCell ⟨w.heap.size + 1 + 1, 0, none⟩ (.int .i64 0)) := (Same.refl _ _).setCell _ (.inr rfl)
            simp only [if_true] at q4
            have hE4 := World.block_lt_of_cell? _ _ r8
            simp only at hE4
            refine ⟨k + 1, M2, U ++ [.page (s.text + s.data + s.heap + k)], by omega, by go_num, hM4.same hsE (by omega) (by omega), ?_, by rw [List.length_append, List.length_singleton, q3], q4, ?_, ?_, ?_, World.cell?_setCell_same _ _ _ r8, by rw [World.frozen?_setCell]; exact r9⟩
            · refine WorkAt.same (by simpa [pushed] using hW4) hsE fun b hb => ?_
              subst hb
              refine .inr fun t m ht => ?_
              have := (hs4.shp _ hE9).trans ((q5.shp _ (by omega)).trans HP.out.2.2.2)
              rw [this] at ht
              cases ht
              simp
            · refine (q5.trans' (hs4.mono (T := fun b => b = fb ∨ w.heap.size ≤ b) (fun b _ h => ?_)) (fun b h _ => h)).trans' (hsE.mono (T := fun b => b = fb ∨ w.heap.size ≤ b) (fun b _ h => by omega)) (fun b h _ => h)
              rcases h with h | h | ⟨h, -⟩ <;> omega
            · rw [hsE.old _ (by omega) (by omega)]; exact r6
            · rw [hsE.old _ (by omega) (by omega)]; exact r7
          case measure => simp [intOf]; omega
        · have hb2 : (er == 0) = false := by simpa using he
          have h11 : er = 11 := by have := Mm.fresh_err M' s.root (s.text + s.data + s.heap + k) 3; rw [← HF.out] at this; simp only at this; omega
          subst h11
          have hE4 := World.block_lt_of_cell? _ _ r8
          simp only at hE4
          obtain ⟨W5, hW5⟩ : ∃ W5, W5 = w4.setCell ⟨w.heap.size + 1 + 1, 0, none⟩ (.int .i64 11) := ⟨_, rfl⟩
          have hsE : Same (· = w.heap.size + 1 + 1) w4 W5 := by rw [hW5]; exact (Same.refl _ _).setCell _ (.inr rfl)
          have FR : Five W5 (w.heap.size + 1) (.int .i64 0) (.int .i64 0) (.int .i64 0) (.int .i64 0) (.slice none 0 0) := H.out.2.2.2.2.1.block ((hsE.old _ (by omega) (by omega)).trans r7)
          obtain ⟨f0, f1, f2, f3, f4, ff⟩ := FR
          have ff0 := ff 0
          have ff1 := ff 1
          have ff2 := ff 2
          have ff3 := ff 3
          have ff4 := ff 4
          have fe : W5.cell? ⟨w.heap.size + 1 + 1, 0, none⟩ = some (.int .i64 11) := by rw [hW5]; exact World.cell?_setCell_same _ _ _ r8
          have fez : W5.frozen? ⟨w.heap.size + 1 + 1, 0, none⟩ = false := by rw [hW5, World.frozen?_setCell]; exact r9
          have HW5 := Lib.hid (And.intro hW5 (And.intro hsE (And.intro hM4 (And.intro hW4 hs4))))
          clear ff hsE hM4 hW4 hs4 r6 r7 hfa
          go_wp2
          rw [← HW5.out.1]
          clear hW5
          go_region
          go_wp2
          obtain ⟨W6, hW6⟩ : ∃ W6, W6 = ((((((W5.setCell ⟨w.heap.size + 1, 0, none⟩ (.int .i64 0)).setCell ⟨w.heap.size + 1, 1, none⟩ (.int .i64 0)).setCell ⟨w.heap.size + 1, 2, none⟩ (.int .i64 0)).setCell ⟨w.heap.size + 1, 3, none⟩ (.int .i64 0)).setCell ⟨w.heap.size + 1, 4, none⟩ (.slice none 0 0)).setCell ⟨w.heap.size + 1 + 1, 0, none⟩ (.int .i64 11)).drew := ⟨_, rfl⟩
          rw [← hW6]
          obtain ⟨⟨k0, k1, k2, k3, k4⟩, fe6, s56⟩ := put5e hW6 f0 f1 f2 f3 f4 fe (by omega)
          clear hW6 f0 f1 f2 f3 f4 fe ff0 ff1 ff2 ff3 ff4 fez
          obtain ⟨-, hsE, hM4, hW4, hs4⟩ := HW5.out
          obtain ⟨q4, q5, q6, q7⟩ := HQ.out
          obtain ⟨hMm, hvv, hsA, S0, R0, e0, ez, s0, s1, s2⟩ := H.out
          have hz5 := hsE.size
          have s46 : Same (fun b => b = w.heap.size + 1 + 1 ∨ b = w.heap.size + 1) w4 W6 := (hsE.mono (fun _ _ h => .inl h)).trans s56
          have hzA1 : A.heap.size ≤ w1.heap.size := by omega
          have hz14 : w1.heap.size ≤ w4.heap.size := Nat.le_trans q5.size hs4.size
          have sh : ∀ b, b < A.heap.size → w4.shape? b = A.shape? b := fun b hb => (hs4.shp b (by have := q5.size; omega)).trans ((q5.shp b (by omega)).trans (HA1.out.shp b hb))
          have hfree : ∀ b, b = w.heap.size + 1 + 1 ∨ b = w.heap.size + 1 → Free w4 (fun x => x < w1.heap.size) b := fun b hb => by
            rcases hb with rfl | rfl
            · exact free_shape ((sh _ (by omega)).trans s2) (by simp)
            · exact free_shape ((sh _ (by omega)).trans s1) (by simp)
          have hW6' := (WorkAt.same (by simpa [pushed] using hW4) s46 hfree : WorkAt W6 w.heap.size wk f s.root (fun x => x < w1.heap.size) U)
          have hM6 := hM4.same s46 (by omega) (by omega)
          refine Go.leaves_cons (f := 83) (args := #[.pointer (some ⟨wk, 0, none⟩), .pointer (some ⟨w.heap.size + 1 + 1, 0, none⟩)]) (by simp) (by simp [go_sem]) ?_
          refine (callsDIn_wide (ends_err hM6 hW6' (by omega) fe6 (by omega))).mono ?_
          rintro e u' w7 ⟨rfl, ⟨v, rfl⟩, hM7, hs7⟩
          have hR7 : R = (M2.undo s.root U.reverse, 11) := by
            have := HM.out.1
            rw [HP.out.2.2.1] at q4
            simp only [Int.reduceEq, if_false] at q4
            rw [q4] at this
            simpa using this
          rw [hR7]
          exact ⟨_, results_ctc rfl (by rfl) (by rfl) (loadVar75 _ _ _ _ _ _ _ (hs7.cell k0 (by simp; omega)) (hs7.cell k1 (by simp; omega)) (hs7.cell k2 (by simp; omega)) (hs7.cell k3 (by simp; omega)) (hs7.cell k4 (by simp; omega))) (loadVar25 _ _ _ (hs7.cell fe6 (by simp; omega))), hM7,
            (((((hsA.trans HA1.out).mono (T := fun b => b = fb ∨ w.heap.size ≤ b) (fun _ _ h => h.elim)).trans q5).trans' (hs4.mono (T := fun b => b = fb ∨ w.heap.size ≤ b) (fun b _ h => by rcases h with h | h | ⟨h, -⟩ <;> omega)) (fun b h _ => h)).trans' ((s46.mono (T := fun b => b = fb ∨ w.heap.size ≤ b) (fun b _ h => by omega)).trans' (hs7.mono (T := fun b => b = fb ∨ w.heap.size ≤ b) (fun b _ h => .inl h)) (fun b h _ => h)) (fun b h _ => h)).mono (fun b hb h => by omega),
            .inr ⟨by simp, rfl⟩⟩
      · have hb : decide ((k : Int) < n) = false := by simpa using hlt2
        obtain ⟨hLd, hloc, hL, hsh2⟩ := HP.out
        have hnil : L.drop k = [] := by rw [hL]; exact List.drop_eq_nil_of_le (by simp [upFrom]; omega)
        rw [hnil, Mm.growU] at q4
        have hm := HM.out.1
        rw [← hL, q4] at hm
        simp only [if_true] at hm
        have hw5 : w.heap.size + 1 + 1 < wr.heap.size := by have := World.block_lt_of_cell? _ _ q8; simpa using this
        have d0 := q2.c0
        have d1 := q2.c1
        obtain ⟨L2, hL2⟩ : ∃ L2, L2 = downFrom (s.text + s.data + s.heap - 1) (-n).toNat := ⟨_, rfl⟩
        rw [← hL2] at hm
        have hLd2 : ∀ k : Nat, (k : Int) < -n → L2.drop k = (s.text + s.data + s.heap - 1 - k) :: L2.drop (k + 1) := fun k hk => by rw [hL2]; exact downFrom_drop _ _ _ (by omega)
        have HX := Lib.hid (And.intro hm (And.intro hLd2 (And.intro hL2 q5)))
        have HW := Lib.hid q2
        obtain ⟨W0, hW0⟩ : ∃ W0, W0 = wr := ⟨_, rfl⟩
        have hs0 : Same (· = fb) W0 wr := by rw [hW0]; exact Same.refl _ _
        rw [← hW0] at HX HW hw5
        clear hm hLd2 hL2 hLd hloc hL hnil q2 q4 q5 hsh2 hlt2 hW0
        go_wp2
        go_loopw [59] (fun p wx => ∃ (j : Nat) (N : Mm), (j : Int) ≤ max (-n) 0 ∧ p = .int .i64 j ∧ MemAt wx f fb N ∧ Mm.cutL s.root M' L2 = Mm.cutL s.root N (L2.drop j) ∧ Same (· = fb) W0 wx ∧
          wx.heap[w.heap.size]? = A.heap[w.heap.size]? ∧ wx.heap[w.heap.size + 1]? = A.heap[w.heap.size + 1]? ∧ wx.cell? ⟨w.heap.size + 1 + 1, 0, none⟩ = some (.int .i64 0) ∧ wx.frozen? ⟨w.heap.size + 1 + 1, 0, none⟩ = false ∧
          wx.cell? ⟨wk, 0, none⟩ = some (.pointer (some ⟨f, 0, none⟩)) ∧ wx.cell? ⟨wk, 1, none⟩ = some (.int .i64 s.root)) (fun p _ => (-n - intOf p).toNat)
        case atStart => exact ⟨0, M', by omega, rfl, q1, rfl, hs0, q6, q7, q8, q9, d0, d1⟩
        case round =>
          obtain ⟨j, N, hj, rfl, x1, x2, x3, x4, x5, x6, x7, x8, x9⟩ := hrel
          clear q1 q6 q7 q8 q9 hs0 d0 d1
          by_cases hlt3 : (j : Int) < -n
          · have hb : decide ((j : Int) < -n) = true := by simpa using hlt3
            rw [HX.out.2.1 j hlt3, Mm.cutL] at x2
            have hua := unmaps_any x1 x8 x9 hnk (s.text + s.data + s.heap - 1 - j) (by constructor <;> omega)
            have hlt0 := hM0.out
            have HY := Lib.hid (And.intro x2 x3)
            clear x2 x3
            go_wp2_with fail
            refine hua.mono ?_
            rintro e w4 ⟨rfl, hM4, hs4⟩
            have hzz := hs4.size
            have y4 : w4.heap[w.heap.size]? = A.heap[w.heap.size]? := (hs4.old _ (by have := World.block_lt_of_cell? _ _ x6; simp only at this; omega) (by omega)).trans x4
            have y5 : w4.heap[w.heap.size + 1]? = A.heap[w.heap.size + 1]? := (hs4.old _ (by have := World.block_lt_of_cell? _ _ x6; simp only at this; omega) (by omega)).trans x5
            have y6 := hs4.cell x6 (by simp; omega)
            have y7 := hs4.unfrozen x6 x7 (by simp; omega)
            have y8 := hs4.cell x8 (by simp; omega)
            have y9 := hs4.cell x9 (by simp; omega)
            clear hua x4 x5 x6 x7 x8 x9
            go_wp2
            go_roundw
            case rel => exact ⟨j + 1, _, by omega, by go_num, hM4, HY.out.1, HY.out.2.trans hs4, y4, y5, y6, y7, y8, y9⟩
            case measure => simp [intOf]; omega
          · have hb : decide ((j : Int) < -n) = false := by simpa using hlt3
            have hnil2 : L2.drop j = [] := by rw [HX.out.2.2.1]; exact List.drop_eq_nil_of_le (by simp [downFrom]; omega)
            rw [hnil2, Mm.cutL] at x2
            have hm := HX.out.1
            rw [x2] at hm
            obtain ⟨hMm, hvv, hsA, S0, R0, e0, ez, s0, s1, s2⟩ := H.out
            obtain ⟨f0, f1, f2, f3, f4, ff⟩ := S0.block x4
            have ff3 := ff 3
            obtain ⟨g0, g1, g2, g3, g4, gf⟩ := R0.block x5
            have gf0 := gf 0
            have gf1 := gf 1
            have gf2 := gf 2
            have gf3 := gf 3
            have gf4 := gf 4
            have hsw1 : Same (fun _ => False) w w1 := hsA.trans HA1.out
            have hswr : Same (fun b => b = fb ∨ w.heap.size ≤ b) w wr := (hsw1.mono (T := fun b => b = fb ∨ w.heap.size ≤ b) (fun _ _ h => h.elim)).trans (HX.out.2.2.2.trans (x3.mono (T := fun b => b = fb ∨ w.heap.size ≤ b) (fun _ _ h => .inl h)))
            have hAr : AttO wr (.slice va s.atts.length vc) s.atts := by
              refine hvv.same hswr fun b hb n hn => ?_
              obtain ⟨m, hm⟩ := hMm.sh
              rcases hb with rfl | hb
              · rw [hm] at hn; cases hn
              · have : w.shape? b = none := by unfold World.shape?; rw [Array.getElem?_eq_none hb]
                rw [this] at hn; cases hn
            have hMf : MemAt wr f fb N := x1
            have hsh0 : wr.shape? w.heap.size = some (75, 5) := (x3.shp _ (by omega)).trans ((HX.out.2.2.2.shp _ (by omega)).trans ((HA1.out.shp _ (by omega)).trans s0))
            have hshb : ∀ b, b < A.heap.size → wr.shape? b = A.shape? b := fun b hb => (x3.shp _ (by have := HX.out.2.2.2.size; omega)).trans ((HX.out.2.2.2.shp _ (by omega)).trans (HA1.out.shp _ hb))
            have HSB := Lib.hid (And.intro ((hshb _ (by omega)).trans s1) ((hshb _ (by omega)).trans s2))
            have HSH := Lib.hid hsh0
            have HZ := Lib.hid (And.intro hm (And.intro hAr (And.intro hswr hMf)))
            clear hm hnil2 hshb x1 x2 x3 x4 x5 hMm hvv hsA S0 R0 e0 ez s0 s1 s2 ff gf hAr hswr hsw1 hMf hsh0
            have hw3 : IntKind.i64.wrap (s.heap + n) = s.heap + n := by rw [IntKind.wrap_i64]; omega
            have how := own_any (wr.setCell ⟨w.heap.size, 3, none⟩ (.int .i64 (s.heap + n))) s.root s.text s.data (s.heap + n) (.slice va s.atts.length vc) s.atts (HZ.out.2.1.same ((Same.refl (· = w.heap.size) _).setCell _ (.inr rfl)) (fun b hb m hm => by rw [hb, HSH.out] at hm; cases hm)) (by omega)
            have hE6 := World.block_lt_of_cell? _ _ x6
            simp only at hE6
            go_wp2_with fail
            refine how.mono ?_
            rintro e w5 ⟨v', rfl, hown, hs5⟩
            obtain ⟨va', vc', rfl⟩ := own_slice hown
            have s05 : Same (· = w.heap.size) wr w5 := ((Same.refl (· = w.heap.size) _).setCell _ (.inr rfl)).trans (hs5.mono (fun _ _ h => h.elim))
            have g0' := s05.cell g0 (by simp)
            have g1' := s05.cell g1 (by simp)
            have g2' := s05.cell g2 (by simp)
            have g3' := s05.cell g3 (by simp)
            have g4' := s05.cell g4 (by simp)
            have gf0' := s05.unfrozen g0 gf0 (by simp)
            have gf1' := s05.unfrozen g1 gf1 (by simp)
            have gf2' := s05.unfrozen g2 gf2 (by simp)
            have gf3' := s05.unfrozen g3 gf3 (by simp)
            have gf4' := s05.unfrozen g4 gf4 (by simp)
            have x6' := s05.cell x6 (by simp; omega)
            have x7' := s05.unfrozen x6 x7 (by simp; omega)
            have HO := Lib.hid (And.intro hown s05)
            clear how hown hs5 s05 f0 f1 f2 f3 f4 g0 g1 g2 g3 g4 gf0 gf1 gf2 gf3 gf4 x6 x7
            go_wp2
            obtain ⟨W6, hW6⟩ : ∃ W6, W6 = (((((w5.setCell ⟨w.heap.size + 1, 0, none⟩ (.int .i64 s.root)).setCell ⟨w.heap.size + 1, 1, none⟩ (.int .i64 s.text)).setCell ⟨w.heap.size + 1, 2, none⟩ (.int .i64 s.data)).setCell ⟨w.heap.size + 1, 3, none⟩ (.int .i64 (s.heap + n))).setCell ⟨w.heap.size + 1, 4, none⟩ (.slice va' s.atts.length vc')).setCell ⟨w.heap.size + 1 + 1, 0, none⟩ (.int .i64 0) := ⟨_, rfl⟩
            rw [← hW6]
            obtain ⟨⟨k0, k1, k2, k3, k4⟩, fe6, s56⟩ := put5f hW6 g0' g1' g2' g3' g4' x6' (by omega)
            clear hW6 g0' g1' g2' g3' g4' gf0' gf1' gf2' gf3' gf4' x6' x7'
            obtain ⟨hm, hAr, hswr, hMf⟩ := HZ.out
            obtain ⟨hown, s05⟩ := HO.out
            have hz5 := s05.size
            have hsr : w.heap.size ≤ wr.heap.size := by omega
            refine Go.leaves_cons (f := 83) (args := #[.pointer (some ⟨wk, 0, none⟩), .pointer (some ⟨w.heap.size + 1 + 1, 0, none⟩)]) (by simp) (by simp [go_sem]) ?_
            refine (callsDIn_wide (ends_ok W6 _ _ .returning fe6)).mono ?_
            rintro e u' w7 ⟨rfl, ⟨v, rfl⟩, rfl⟩
            rw [hm]
            refine ⟨_, results_ctc rfl (by rfl) (by rfl) (loadVar75 _ _ _ _ _ _ _ k0 k1 k2 k3 k4) (loadVar25 _ _ _ fe6), (hMf.same s05 (by omega) (by omega)).same s56 (by omega) (by omega), ?_, .inl ⟨rfl, .slice va' s.atts.length vc', ?_, ?_⟩⟩
            · exact ((hswr.trans' (s05.mono (T := fun b => b = fb ∨ w.heap.size ≤ b) (fun b _ h => by omega)) (fun b h _ => h)).trans' (s56.mono (T := fun b => b = fb ∨ w.heap.size ≤ b) (fun b _ h => by omega)) (fun b h _ => h)).mono (fun b hb h => by omega)
            · rfl
            · refine AttO.same (ownsRow_base hown (Nat.zero_le _) : AttO w5 _ s.atts) s56 fun b hb m hm => ?_
              rcases hb with rfl | rfl
              · rw [s05.shp _ (by omega), HSB.out.2] at hm; cases hm
              · rw [s05.shp _ (by omega), HSB.out.1] at hm; cases hm
end Go.Proofs.Ytlbgnmcjdmdjpaa
/- Package space: Drop. -/
namespace Go.Proofs.Ytlbgnmcjdmdjpaa
open Go.RowKit Go.Shelf
attribute [local go_sem] Oper.semAt_some

def Mm.pgs (M : Mm) (root : Int) : List Int := (M.pgTo root 16).map fun (p : Nat) => (p : Int)
def Mm.dropSp (M : Mm) (root : Int) : Mm × Int := if M.check root 0 = 0 then (Mm.cutL root M (M.pgs root)).drop root else (M, M.check root 0)

theorem Mm.pgTo_lt (M : Mm) (r : Int) (p : Nat) (h : p ∈ M.pgTo r 16) : p < 256 := by
  rw [Mm.pages_eq] at h
  exact (Mm.mem_pages.1 h).1

set_option maxHeartbeats 1600000 in
set_option maxRecDepth 16384 in
theorem dropSp_any {w : World} {f fb : Nat} {M : Mm} (hM : MemAt w f fb M) (s : Spc) (va : Option Addr) (vn vc : Nat) :
    Calls Try.prog 56 #[.pointer (some ⟨f, 0, none⟩), s.val (.slice va vn vc)] w fun e w' => e = .returned (.int .i64 (M.dropSp s.root).2) ∧ MemAt w' f fb (M.dropSp s.root).1 ∧ Same (· = fb) w w' := by
  obtain ⟨R, hR⟩ : ∃ R, R = M.dropSp s.root := ⟨_, rfl⟩
  rw [← hR]
  have hlt := hM.lt
  have hlt0 := Lib.hid hlt
  unfold Mm.dropSp at hR
  have hsA : Same (fun _ => False) w (w.alloc (.cells #[.int .i64 s.root, .int .i64 s.text, .int .i64 s.data, .int .i64 s.heap, .slice va vn vc] 75)) := same_alloc _
  by_cases hc : M.check s.root 0 = 0
  · rw [if_pos hc] at hR
    have hpg := pages_ok (hM.same0 hsA) s.root hc
    obtain ⟨L, hL⟩ : ∃ L, L = M.pgTo s.root 16 := ⟨_, rfl⟩
    rw [← hL] at hpg
    have HL := Lib.hid hL
    clear hL
    obtain ⟨A, hA⟩ : ∃ A, A = w.alloc (.cells #[.int .i64 s.root, .int .i64 s.text, .int .i64 s.data, .int .i64 s.heap, .slice va vn vc] 75) := ⟨_, rfl⟩
    have S0 : Five A w.heap.size (.int .i64 s.root) (.int .i64 s.text) (.int .i64 s.data) (.int .i64 s.heap) (.slice va vn vc) := by
      rw [hA]; exact ⟨by simp [go_sem], by simp [go_sem], by simp [go_sem], by simp [go_sem], by simp [go_sem], fun o => by simp [go_sem]⟩
    have hzA : A.heap.size = w.heap.size + 1 := by rw [hA]; simp
    rw [← hA] at hsA
    have H := Lib.hid (And.intro hM (And.intro hsA (And.intro hA hR)))
    unfold Spc.val
    clear hM hsA hA hR hc
    go_enter Try.func56, Try.ntmps56
    go_wp2_with fail
    refine hpg.mono ?_
    rintro e w1 ⟨v, rfl, hown, hs1⟩
    obtain ⟨hM, hsA, hA, hR⟩ := H.out
    rw [← hA] at hs1
    obtain ⟨f0, f1, f2, f3, f4, ff⟩ := S0.same hs1 (by simp)
    obtain ⟨pa, pc, rfl⟩ := own_slice hown
    have hs01 := hsA.trans hs1
    have hof := of_work (hM.same0 hs01) s va vn vc
    unfold Spc.val at hof
    have hz1 := hs1.size
    have H1 := Lib.hid (And.intro hown hs1)
    clear hM hsA hA hR hown hs1 S0 hpg ff
    go_wp2_with fail
    refine hof.mono ?_
    rintro e w2 ⟨wk, hwk, rfl, hW2, hs2⟩
    obtain ⟨hM, hsA, hA, hR⟩ := H.out
    obtain ⟨hown, hs1⟩ := H1.out
    have hz2 := hs2.size
    have hL := HL.out
    have hM2 : MemAt w2 f fb M := (hM.same0 hs01).same0 hs2
    have hk0 : wk ≠ fb := by omega
    have d0 := hW2.c0
    have d1 := hW2.c1
    have g0 : w2.cell? ⟨w.heap.size, 0, none⟩ = some (.int .i64 s.root) := hs2.cell f0 (by simp)
    have hcell : ∀ (k x : Nat), L[k]? = some x → ∃ g, pa = some ⟨g, 0, none⟩ ∧ g ≠ fb ∧ w2.cell? ⟨g, k, none⟩ = some (.int .i64 (x : Int)) := fun k x hx => by
      have hown2 := ownsRow_same hown hs2 (by simp)
      rcases hown2.2 with ⟨hv, h0⟩ | ⟨g, cap, cur, hv, hb, hg, _⟩
      · have := (List.getElem?_eq_some_iff.1 hx).1
        omega
      · cases hv
        refine ⟨g, rfl, by rw [← hA] at hb; omega, ?_⟩
        have h := World.ownsRow.cells (g := g) hown2 rfl k (.int .i64 (x : Int)) (by unfold ints; rw [List.getElem?_map, hx]; rfl)
        have e : (⟨g, 0, none⟩ : Addr).add k = ⟨g, k, none⟩ := by
          unfold Addr.add
          by_cases hj : k = 0
          · subst hj; rfl
          · simp [hj]
        rwa [e] at h
    have hLl : L.length ≤ 256 := by rw [hL, Mm.pages_eq]; exact M.pages_len s.root
    have hLb : ∀ (k x : Nat), L[k]? = some x → x < 256 := fun k x hx => by
      have := List.mem_of_getElem? hx
      rw [hL] at this
      exact M.pgTo_lt s.root x this
    have HP := Lib.hid (And.intro hcell (And.intro hLb (And.intro hL (hs01.trans hs2))))
    clear hcell hLb hL hM hsA hA hR hown hs1 hs2 hof hW2 f0 f1 f2 f3 f4
    go_wp2
    go_loopw [25] (fun p wr => ∃ (k : Nat) (N : Mm), k ≤ L.length ∧ p = .int .i64 k ∧ MemAt wr f fb N ∧ Mm.cutL s.root M (M.pgs s.root) = Mm.cutL s.root N ((L.map fun (p : Nat) => (p : Int)).drop k) ∧ Same (· = fb) w2 wr ∧
      wr.cell? ⟨w.heap.size, 0, none⟩ = some (.int .i64 s.root) ∧ wr.cell? ⟨wk, 0, none⟩ = some (.pointer (some ⟨f, 0, none⟩)) ∧ wr.cell? ⟨wk, 1, none⟩ = some (.int .i64 s.root)) (fun p _ => L.length - (intOf p).toNat)
    case atStart => exact ⟨0, M, by omega, rfl, hM2, by rw [HP.out.2.2.1]; rfl, Same.refl _ _, g0, d0, d1⟩
    case round =>
      obtain ⟨k, N, hk, rfl, x1, x2, x3, x4, x5, x6⟩ := hrel
      clear g0 d0 d1 hM2
      by_cases hlt2 : k < L.length
      · have hb : decide ((k : Int) < L.length) = true := by simpa using hlt2
        have hlti : (k : Int) < L.length := by omega
        obtain ⟨x, hx⟩ : ∃ x, L[k]? = some x := ⟨_, List.getElem?_eq_getElem hlt2⟩
        obtain ⟨g, rfl, hgf, hc0⟩ := HP.out.1 k x hx
        have hx256 := HP.out.2.1 k x hx
        have hc := x3.cell hc0 hgf
        have hdr : (L.map fun (p : Nat) => (p : Int)).drop k = (x : Int) :: (L.map fun (p : Nat) => (p : Int)).drop (k + 1) := by
          rw [List.drop_eq_getElem_cons (by simpa using hlt2)]
          simp [(List.getElem?_eq_some_iff.1 hx).2]
        rw [hdr, Mm.cutL] at x2
        have hua := unmaps_any x1 x5 x6 hk0 x (by constructor <;> omega)
        have HY := Lib.hid (And.intro x2 x3)
        clear x2 x3 hdr hx hc0
        go_wp2_with fail
        refine hua.mono ?_
        rintro e w4 ⟨rfl, hM4, hs4⟩
        have y4 := hs4.cell x4 (by simp; omega)
        have y5 := hs4.cell x5 (by simp; omega)
        have y6 := hs4.cell x6 (by simp; omega)
        clear hua x4 x5 x6 hc
        go_wp2
        go_roundw
        case rel => exact ⟨k + 1, _, by omega, by go_num, hM4, HY.out.1, HY.out.2.trans hs4, y4, y5, y6⟩
        case measure => simp [intOf]; omega
      · have hb : decide ((k : Int) < L.length) = false := by simp; omega
        have hd := drop_any x1 s.root
        have hnil : (L.map fun (p : Nat) => (p : Int)).drop k = [] := List.drop_eq_nil_of_le (by simp; omega)
        rw [hnil, Mm.cutL] at x2
        have HY := Lib.hid (And.intro x2 x3)
        clear x2 x3 hnil
        go_wp2_with fail
        refine hd.mono ?_
        rintro e w4 ⟨rfl, hM4, hs4⟩
        go_wp2
        go_ret
        have hR := H.out.2.2.2
        rw [HY.out.1] at hR
        rw [hR]
        exact ⟨rfl, hM4, (((HP.out.2.2.2.mono (fun _ _ h => h.elim)).trans HY.out.2).trans hs4)⟩
  · rw [if_neg hc] at hR
    have hpg := pages_bad (hM.same0 hsA) s.root hc
    have hb : (M.check s.root 0 == 0) = false := by simpa using hc
    unfold Spc.val
    rw [hR]
    clear hc hR
    go_enter Try.func56, Try.ntmps56
    go_wp2_with fail
    refine hpg.mono ?_
    rintro e w1 ⟨rfl, hs1⟩
    go_wp2
    go_ret
    exact ⟨rfl, (hM.same0 hsA).same0 hs1, (hsA.trans hs1).mono (fun _ _ h => h.elim)⟩
end Go.Proofs.Ytlbgnmcjdmdjpaa
/- Package space: Fork. -/
namespace Go.Proofs.Ytlbgnmcjdmdjpaa
open Go.RowKit Go.Shelf
attribute [local go_sem] Oper.semAt_some

theorem Mm.map_mono (M : Mm) (r p f fl : Int) : (M.map r p f fl).1.n = M.n ∧ ∀ x, 0 < M.R x → 0 < (M.map r p f fl).1.R x := by
  have low : ∀ (M : Mm) (t : Int) (i a b : Nat), (M.mapLow t i a b).1.n = M.n ∧ (M.mapLow t i a b).1.R = M.R := fun M t i a b => by
    unfold Mm.mapLow; split
    · exact ⟨Mm.put_n .., Mm.put_R ..⟩
    · exact ⟨rfl, rfl⟩
  unfold Mm.map
  split
  · exact ⟨rfl, fun _ h => h⟩
  · split
    · exact ⟨rfl, fun _ h => h⟩
    · split
      · split
        · exact ⟨rfl, fun _ h => h⟩
        · rename_i k _
          obtain ⟨h1, h2⟩ := low ((M.alloc k).put r (p.toNat / 16) 1 k) k (p.toNat % 16) fl.toNat f.toNat
          refine ⟨by rw [h1, Mm.put_n]; rfl, fun x hx => ?_⟩
          rw [h2, Mm.put_R]
          simp only [Mm.alloc]
          split
          · omega
          · exact hx
      · obtain ⟨h1, h2⟩ := low M (M.get r (p.toNat / 16)).2 (p.toNat % 16) fl.toNat f.toNat
        exact ⟨h1, fun x hx => by rw [h2]; exact hx⟩
theorem Mm.fresh_used (M : Mm) (r p fl : Int) : (M.fresh r p fl).2.2 = 0 → (M.fresh r p fl).1.isUsed (M.fresh r p fl).2.1 = true := by
  unfold Mm.fresh
  split
  · intro h; simp at h
  · rename_i k hk
    obtain ⟨h1, -, -⟩ := Mm.least_spec hk
    intro h
    simp only at h ⊢
    unfold Mm.maps at h ⊢
    split
    · obtain ⟨q1, q2⟩ := (M.alloc k).map_mono r p k fl
      refine Mm.isUsed_nat (by simp only; rw [q1]; exact h1) (q2 k (by simp [Mm.alloc]))
    · rename_i hne
      rw [if_neg hne] at h
      simp at h

/-- A frame's bytes, or none. -/
def Mm.rd (M : Mm) (k : Int) : ByteArray := if M.isUsed k then M.str k.toNat 0 64 else ByteArray.empty
theorem Mm.rd_size (M : Mm) (k : Int) : (M.rd k).size ≤ 64 := by
  unfold Mm.rd
  split
  · rw [Mm.str_size]; omega
  · show (0 : Nat) ≤ 64; omega
theorem read64_any {w : World} {f fb : Nat} {M : Mm} (h : MemAt w f fb M) (a : Int) :
    Calls Try.prog 35 #[.pointer (some ⟨f, 0, none⟩), .int .i64 a, .int .i64 0, .int .i64 64] w fun e w' => ∃ er : Int, e = .returned (.tuple #[.string (M.rd a), .int .i64 er]) ∧ Same (fun _ => False) w w' := by
  cases hu : M.isUsed a with
  | false =>
    refine (read_bad h a 0 64 hu).mono ?_
    rintro e w' ⟨rfl, hs⟩
    exact ⟨10, by simp [Mm.rd, hu], hs⟩
  | true =>
    obtain ⟨k, rfl, hk, hR⟩ := Mm.used_iff hu
    refine (read_ok h k 0 64 hk hR (by omega) (by omega)).mono ?_
    rintro e w' ⟨rfl, hs⟩
    exact ⟨0, by simp [Mm.rd, hu], hs⟩

/-- A page of a child's. -/
def Mm.forkStep (M : Mm) (root old p : Int) : Mm × Int :=
  if bits .and .i64 (M.walk old p).2.1 4 = 0 then M.filled root p (M.walk old p).2.1 (M.rd (M.walk old p).1) else M.shared root p (M.walk old p).1 (M.walk old p).2.1
def Mm.forkU (root old : Int) : Mm → List Und → List Int → Mm × Int
  | M, _, [] => (M, 0)
  | M, U, p :: r => if (M.forkStep root old p).2 = 0 then Mm.forkU root old (M.forkStep root old p).1 (U ++ [.page p]) r else ((M.forkStep root old p).1.undo root U.reverse, 11)
def Mm.fork (M : Mm) (old : Int) : Mm × Int × Int := match M.least with
  | none => (M, 0, 11)
  | some k => ((Mm.forkU k old (M.alloc k) [.root] ((M.alloc k).pgs old)).1, k, (Mm.forkU k old (M.alloc k) [.root] ((M.alloc k).pgs old)).2)
theorem Mm.filled_err (M : Mm) (r p fl : Int) (s : ByteArray) : (M.filled r p fl s).2 = 0 ∨ (M.filled r p fl s).2 = 11 := by
  unfold Mm.filled
  split
  · rename_i h
    rw [if_pos (M.fresh_used r p fl h)]
    exact .inl rfl
  · exact M.fresh_err r p fl
theorem Mm.shared_err (M : Mm) (r p f fl : Int) : (M.shared r p f fl).2 = 0 ∨ (M.shared r p f fl).2 = 11 := by
  unfold Mm.shared
  split
  · exact Mm.maps_err _ _ _ _ _
  · exact .inr rfl
theorem Mm.forkStep_err (M : Mm) (root old p : Int) : (M.forkStep root old p).2 = 0 ∨ (M.forkStep root old p).2 = 11 := by
  unfold Mm.forkStep
  split
  · exact Mm.filled_err ..
  · exact Mm.shared_err ..
end Go.Proofs.Ytlbgnmcjdmdjpaa
/- Package space: Fork's walk. -/
namespace Go.Proofs.Ytlbgnmcjdmdjpaa
open Go.RowKit Go.Shelf
attribute [local go_sem] Oper.semAt_some

/-- What work may change, and the cell of an error. -/
def Wf2 (fb base wk e : Nat) (w : World) (k : Nat) : Prop := Wf fb base wk w k ∨ k = e
theorem Same.w2trans {A B C : World} {fb base wk e : Nat} (h : Same (Wf2 fb base wk e A) A B) (g : Same (Wf2 fb base wk e B) B C) : Same (Wf2 fb base wk e A) A C :=
  h.trans' g fun k hk hlt => by
    rcases hk with (h1 | h1 | ⟨h0, n, h1⟩) | h1
    · exact .inl (.inl h1)
    · exact .inl (.inr (.inl h1))
    · exact .inl (.inr (.inr ⟨h0, n, by rw [← h.shp k hlt]; exact h1⟩))
    · exact .inr h1
theorem Same.w2 {A B : World} {fb base wk e : Nat} (h : Same (Wf fb base wk A) A B) : Same (Wf2 fb base wk e A) A B := h.mono (fun _ _ h => .inl h)
theorem Same.we {A B : World} {fb base wk e : Nat} (h : Same (· = e) A B) : Same (Wf2 fb base wk e A) A B := h.mono (fun _ _ h => .inr h)
theorem Same.w0 {A B : World} {fb base wk e : Nat} (h : Same (fun _ => False) A B) : Same (Wf2 fb base wk e A) A B := h.mono (fun _ _ h => h.elim)
theorem wf2_free {fb base wk e : Nat} {w : World} {b : Nat} {t : TypeId} {n : Nat} (hs : w.shape? b = some (t, n)) (h1 : b ≠ fb) (h2 : b ≠ wk) (h3 : b ≠ e) (ht : t ≠ 1) : ¬ Wf2 fb base wk e w b := by
  rintro (h | h)
  · exact wf_free hs h1 h2 ht h
  · exact h3 h
theorem Same.w2base {A B : World} {fb base wk e : Nat} (h : Same (Wf2 fb base wk e A) A B) (h1 : base ≤ wk) (h2 : base ≤ e) : Same (fun k => k = fb ∨ base ≤ k) A B := h.mono fun k _ hk => by
  rcases hk with (h | h | ⟨h, -⟩) | h
  · exact .inl h
  · exact .inr (by omega)
  · exact .inr h
  · exact .inr (by omega)

set_option maxHeartbeats 3200000 in
set_option maxRecDepth 16384 in
theorem fork_any {w : World} {f fb : Nat} {M : Mm} (hM : MemAt w f fb M) (s : Spc) (v : Value) (hv : AttO w v s.atts) (hal : s.atts.length ≤ 500) (hr : M.isUsed s.root = true) :
    Calls Try.prog 49 #[.pointer (some ⟨f, 0, none⟩), s.val v] w fun e w' => MemAt w' f fb (M.fork s.root).1 ∧ Same (· = fb) w w' ∧
      (((M.fork s.root).2.2 = 0 ∧ ∃ v', e = .returned (.tuple #[({ s with root := (M.fork s.root).2.1 } : Spc).val v', .int .i64 0]) ∧ AttO w' v' s.atts) ∨
      ((M.fork s.root).2.2 ≠ 0 ∧ e = .returned (.tuple #[noSpc, .int .i64 11]))) := by
  obtain ⟨va, vc, rfl⟩ := own_slice hv
  obtain ⟨R, hR⟩ : ∃ R, R = M.fork s.root := ⟨_, rfl⟩
  rw [← hR]
  have hlt := hM.lt
  obtain ⟨A, hA⟩ : ∃ A, A = ((w.alloc (.cells #[.int .i64 s.root, .int .i64 s.text, .int .i64 s.data, .int .i64 s.heap, .slice va s.atts.length vc] 75)).alloc (.cells #[.int .i64 0, .int .i64 0, .int .i64 0, .int .i64 0, .slice none 0 0] 75)).alloc (.cells #[.int .i64 0] 25) := ⟨_, rfl⟩
  have hsA : Same (fun _ => False) w A := by rw [hA]; exact ((same_alloc _).alloc _).alloc _
  have S0 : Five A w.heap.size (.int .i64 s.root) (.int .i64 s.text) (.int .i64 s.data) (.int .i64 s.heap) (.slice va s.atts.length vc) := by
    rw [hA]; exact ⟨by simp [go_sem], by simp [go_sem], by simp [go_sem], by simp [go_sem], by simp [go_sem], fun o => by simp [go_sem]⟩
  have R0 : Five A (w.heap.size + 1) (.int .i64 0) (.int .i64 0) (.int .i64 0) (.int .i64 0) (.slice none 0 0) := by
    rw [hA]; exact ⟨by simp [go_sem], by simp [go_sem], by simp [go_sem], by simp [go_sem], by simp [go_sem], fun o => by simp [go_sem]⟩
  have e0 : A.cell? ⟨w.heap.size + 1 + 1, 0, none⟩ = some (.int .i64 0) := by rw [hA]; simp [go_sem]
  have ez : A.frozen? ⟨w.heap.size + 1 + 1, 0, none⟩ = false := by rw [hA]; simp [go_sem]
  have s0 : A.shape? w.heap.size = some (75, 5) := by rw [hA]; simp only [shape_alloc, World.size_alloc]; rw [if_neg (by omega), if_neg (by omega)]; rfl
  have s1 : A.shape? (w.heap.size + 1) = some (75, 5) := by rw [hA]; simp only [shape_alloc, World.size_alloc]; rw [if_neg (by omega)]; rfl
  have s2 : A.shape? (w.heap.size + 1 + 1) = some (25, 1) := by rw [hA]; simp only [shape_alloc, World.size_alloc]; rfl
  have hzA : A.heap.size = w.heap.size + 1 + 1 + 1 := by rw [hA]; simp
  have hbg := begun_any (hM.same0 hsA)
  rw [hA] at hbg
  have H := Lib.hid (And.intro hM (And.intro hv (And.intro hsA (And.intro S0 (And.intro R0 (And.intro e0 (And.intro ez (And.intro s0 (And.intro s1 s2)))))))))
  have HA := Lib.hid hA
  have HR := Lib.hid (And.intro hR hr)
  clear hR hM hv hsA S0 R0 e0 ez s0 s1 s2 hA hr
  unfold Spc.val
  go_enter_defers Try.func49, Try.ntmps49
  go_wp2_with fail
  refine hbg.mono ?_
  rintro e w1 ⟨wk, hwk, ⟨hall, rfl, hM1, hs1⟩ | ⟨k, hk, hRk, hleast, rfl, hM1, hW1, hs1⟩⟩
  · rw [← HA.out] at hs1 hwk
    obtain ⟨hM, hv, hsA, S0, R0, e0, ez, s0, s1, s2⟩ := H.out
    obtain ⟨f0, f1, f2, f3, f4, ff⟩ := R0.same hs1 (by simp)
    have ff0 := ff 0
    have ff1 := ff 1
    have ff2 := ff 2
    have ff3 := ff 3
    have ff4 := ff 4
    have g0 := hs1.cell e0 (by simp)
    have gz := hs1.unfrozen e0 ez (by simp)
    have hz1 := hs1.size
    have hR2 : R = (M, 0, 11) := by rw [HR.out.1, Mm.fork, Mm.least_none hall]
    have HX := Lib.hid (And.intro hR2 (And.intro hM1 (hsA.trans hs1)))
    obtain ⟨W5, hW5⟩ : ∃ W5, W5 = w1.setCell ⟨w.heap.size + 1 + 1, 0, none⟩ (.int .i64 11) := ⟨_, rfl⟩
    have hsE : Same (· = w.heap.size + 1 + 1) w1 W5 := by rw [hW5]; exact (Same.refl _ _).setCell _ (.inr rfl)
    have h0 := hsE.cell f0 (by simp)
    have h1 := hsE.cell f1 (by simp)
    have h2 := hsE.cell f2 (by simp)
    have h3 := hsE.cell f3 (by simp)
    have h4 := hsE.cell f4 (by simp)
    have z0 := hsE.unfrozen f0 ff0 (by simp)
    have z1 := hsE.unfrozen f1 ff1 (by simp)
    have z2 := hsE.unfrozen f2 ff2 (by simp)
    have z3 := hsE.unfrozen f3 ff3 (by simp)
    have z4 := hsE.unfrozen f4 ff4 (by simp)
    have fe : W5.cell? ⟨w.heap.size + 1 + 1, 0, none⟩ = some (.int .i64 11) := by rw [hW5]; exact World.cell?_setCell_same _ _ _ g0
    have fez : W5.frozen? ⟨w.heap.size + 1 + 1, 0, none⟩ = false := by rw [hW5, World.frozen?_setCell]; exact gz
    have HS5 := Lib.hid (And.intro hW5 hsE)
    clear hR2 hM1 hs1 hM hv hsA S0 R0 e0 ez s0 s1 s2 ff f0 f1 f2 f3 f4 ff0 ff1 ff2 ff3 ff4 hsE hbg hall
    go_wp2
    rw [← HS5.out.1]
    clear hW5 g0 gz
    go_region
    go_wp2
    obtain ⟨W6, hW6⟩ : ∃ W6, W6 = ((((((W5.setCell ⟨w.heap.size + 1, 0, none⟩ (.int .i64 0)).setCell ⟨w.heap.size + 1, 1, none⟩ (.int .i64 0)).setCell ⟨w.heap.size + 1, 2, none⟩ (.int .i64 0)).setCell ⟨w.heap.size + 1, 3, none⟩ (.int .i64 0)).setCell ⟨w.heap.size + 1, 4, none⟩ (.slice none 0 0)).setCell ⟨w.heap.size + 1 + 1, 0, none⟩ (.int .i64 11)).drew := ⟨_, rfl⟩
    rw [← hW6]
    obtain ⟨⟨k0, k1, k2, k3, k4⟩, fe6, s56⟩ := put5e hW6 h0 h1 h2 h3 h4 fe (by omega)
    clear hW6 h0 h1 h2 h3 h4 fe z0 z1 z2 z3 z4 fez
    obtain ⟨hR2, hM1, hs1⟩ := HX.out
    rw [hR2]
    refine ⟨_, results_cells2 rfl (by rfl) (by rfl) (loadVar75 _ _ _ _ _ _ _ k0 k1 k2 k3 k4) (loadVar25 _ _ _ fe6), (hM1.same HS5.out.2 (by omega) (by omega)).same s56 (by omega) (by omega), ?_, .inr ⟨by simp, rfl⟩⟩
    exact ((hs1.trans' (HS5.out.2.mono (T := fun b => w.heap.size ≤ b) (fun b _ h => by omega)) (fun b h _ => by omega)).trans' (s56.mono (T := fun b => w.heap.size ≤ b) (fun b _ h => by omega)) (fun b h _ => by omega)).mono (fun b hb h => by exact h.elim)
  · rw [← HA.out] at hs1 hwk hW1
    obtain ⟨hM, hv, hsA, S0, R0, e0, ez, s0, s1, s2⟩ := H.out
    have hz1 := hs1.size
    have hnk : wk ≠ fb := by omega
    have hck : (M.alloc k).check s.root 0 = 0 := by
      obtain ⟨j, hj, hj1, hj2⟩ := Mm.used_iff HR.out.2
      have hu : (M.alloc k).isUsed s.root = true := by
        rw [hj]
        refine Mm.isUsed_nat (M := M.alloc k) hj1 ?_
        simp only [Mm.alloc]
        split <;> omega
      simp [Mm.check, hu]
    obtain ⟨M1, hM1e⟩ : ∃ M1, M1 = M.alloc k := ⟨_, rfl⟩
    rw [← hM1e] at hM1 hck
    have hR2 : R = ((Mm.forkU k s.root M1 [.root] (M1.pgs s.root)).1, (k : Int), (Mm.forkU k s.root M1 [.root] (M1.pgs s.root)).2) := by rw [HR.out.1, Mm.fork, Mm.least_some hk hRk hleast, hM1e]
    have g0 := hs1.cell e0 (by simp; omega)
    have gz := hs1.unfrozen e0 ez (by simp; omega)
    have sh1 : ∀ b, b < A.heap.size → w1.shape? b = A.shape? b := fun b hb => hs1.shp b hb
    obtain ⟨W5, hW5⟩ : ∃ W5, W5 = w1.setCell ⟨w.heap.size + 1 + 1, 0, none⟩ (.int .i64 0) := ⟨_, rfl⟩
    have hsE : Same (· = w.heap.size + 1 + 1) w1 W5 := by rw [hW5]; exact (Same.refl _ _).setCell _ (.inr rfl)
    have hM5 := hM1.same hsE (by omega) (by omega)
    have hW5' : WorkAt W5 w.heap.size wk f k (fun x => x < A.heap.size) [.root] := (hW1.same hsE (fun b hb => by subst hb; exact free_shape ((sh1 _ (by omega)).trans s2) (by simp))).base (by omega)
    have F5 : Five W5 w.heap.size (.int .i64 s.root) (.int .i64 s.text) (.int .i64 s.data) (.int .i64 s.heap) (.slice va s.atts.length vc) := (S0.same hs1 (by omega)).same hsE (by omega)
    have FR : Five W5 (w.heap.size + 1) (.int .i64 0) (.int .i64 0) (.int .i64 0) (.int .i64 0) (.slice none 0 0) := (R0.same hs1 (by omega)).same hsE (by omega)
    have fe : W5.cell? ⟨w.heap.size + 1 + 1, 0, none⟩ = some (.int .i64 0) := by rw [hW5]; exact World.cell?_setCell_same _ _ _ g0
    have fez : W5.frozen? ⟨w.heap.size + 1 + 1, 0, none⟩ = false := by rw [hW5, World.frozen?_setCell]; exact gz
    have sh5 : ∀ b, b < A.heap.size → W5.shape? b = A.shape? b := fun b hb => (hsE.shp b (by omega)).trans (sh1 b hb)
    have hpg := pages_ok hM5 s.root hck
    obtain ⟨L, hL⟩ : ∃ L, L = M1.pgTo s.root 16 := ⟨_, rfl⟩
    rw [← hL] at hpg
    have hLl : L.length ≤ 256 := by rw [hL, Mm.pages_eq]; exact M1.pages_len s.root
    have hLb : ∀ (i x : Nat), L[i]? = some x → x < 256 := fun i x hx => by
      have := List.mem_of_getElem? hx
      rw [hL] at this
      exact M1.pgTo_lt s.root x this
    have s05 : Same (fun b => b = fb ∨ w.heap.size ≤ b) w W5 := ((hsA.mono (T := fun b => b = fb ∨ w.heap.size ≤ b) (fun _ _ h => h.elim)).trans' (hs1.mono (T := fun b => b = fb ∨ w.heap.size ≤ b) (fun _ _ h => .inl h)) (fun _ h _ => h)).trans' (hsE.mono (T := fun b => b = fb ∨ w.heap.size ≤ b) (fun b _ h => by omega)) (fun _ h _ => h)
    have hz5 := hsE.size
    have ff0 : w1.cell? ⟨w.heap.size, 0, none⟩ = some (.int .i64 s.root) := (S0.same hs1 (by omega)).c0
    have HX := Lib.hid (And.intro hR2 (And.intro hL (And.intro hLb (And.intro sh5 (And.intro F5 (And.intro FR (And.intro hW5' (And.intro hM5 s05))))))))
    have HW5 := Lib.hid hW5
    clear hR2 hL hLb sh5 F5 FR hW5' hM5 s05 hsE sh1 hM hv hsA S0 R0 e0 ez s0 s1 s2 hW1 hs1 hM1 hM1e hck hbg hleast hRk
    go_wp2_with fail
    rw [← HW5.out]
    clear hW5 g0 gz
    refine hpg.mono ?_
    rintro e w2 ⟨v2, rfl, hown, hs2⟩
    obtain ⟨hR2, hL, hLb, sh5, F5, FR, hW5', hM5, s05⟩ := HX.out
    obtain ⟨pa, pc, rfl⟩ := own_slice hown
    have hz2 := hs2.size
    have sh2 : ∀ b, b < A.heap.size → w2.shape? b = A.shape? b := fun b hb => (hs2.shp b (by omega)).trans (sh5 b hb)
    have hM2 := hM5.same0 hs2
    have hW2 := hW5'.same0 hs2
    have S2 := F5.same hs2 (by simp)
    have R2 := FR.same hs2 (by simp)
    have fe2 := hs2.cell fe (by simp)
    have fez2 := hs2.unfrozen fe fez (by simp)
    have hHo := H.out
    have n0 : ∀ wr, Same (Wf2 fb w.heap.size wk (w.heap.size + 1 + 1) w2) w2 wr → ∀ b, b = w.heap.size ∨ b = w.heap.size + 1 → ¬ Wf2 fb w.heap.size wk (w.heap.size + 1 + 1) wr b := fun wr h b hb => by
      rcases hb with rfl | rfl
      · exact wf2_free ((h.shp _ (by omega)).trans ((sh2 _ (by omega)).trans hHo.2.2.2.2.2.2.2.1)) (by omega) (by omega) (by omega) (by simp)
      · exact wf2_free ((h.shp _ (by omega)).trans ((sh2 _ (by omega)).trans hHo.2.2.2.2.2.2.2.2.1)) (by omega) (by omega) (by omega) (by simp)
    have hcell : ∀ (i x : Nat), L[i]? = some x → ∃ g, pa = some ⟨g, 0, none⟩ ∧ ∀ wr, Same (Wf2 fb w.heap.size wk (w.heap.size + 1 + 1) w2) w2 wr → wr.cell? ⟨g, i, none⟩ = some (.int .i64 (x : Int)) := fun i x hx => by
      rcases hown.2 with ⟨hv, h0⟩ | ⟨g, cap, cur, hv, hb, hg, _⟩
      · have := (List.getElem?_eq_some_iff.1 hx).1
        omega
      · cases hv
        refine ⟨g, rfl, fun wr h => ?_⟩
        obtain ⟨_, _, n, hn⟩ := ownsRow_shape hown (g := g) rfl
        have h1 := World.ownsRow.cells (g := g) hown rfl i (.int .i64 (x : Int)) (by unfold ints; rw [List.getElem?_map, hx]; rfl)
        have e : (⟨g, 0, none⟩ : Addr).add i = ⟨g, i, none⟩ := by
          unfold Addr.add
          by_cases hj : i = 0
          · subst hj; rfl
          · simp [hj]
        rw [e] at h1
        exact h.cell h1 (wf2_free hn (show g ≠ fb by omega) (show g ≠ wk by have := hW5'.lt; omega) (show g ≠ _ by omega) (by simp))
    have HP := Lib.hid (And.intro hcell (And.intro n0 (And.intro sh2 (And.intro S2 (And.intro R2 (And.intro hs2 hown))))))
    have hgc : w2.cell? ⟨w.heap.size, 0, none⟩ = some (.int .i64 s.root) := S2.c0
    clear hR2 hL hLb sh5 F5 FR hW5' hM5 s05 hcell n0 sh2 S2 R2 hs2 hown hHo fe fez ff0 hpg
    go_wp2
    go_loopw [38] (fun p wr => ∃ (j : Nat) (N : Mm) (U : List Und), j ≤ L.length ∧ p = .int .i64 j ∧ MemAt wr f fb N ∧ WorkAt wr w.heap.size wk f k (fun x => x < A.heap.size) U ∧ U.length = j + 1 ∧ Mm.forkU k s.root M1 [.root] (L.map fun (p : Nat) => (p : Int)) = Mm.forkU k s.root N U ((L.map fun (p : Nat) => (p : Int)).drop j) ∧
      Same (Wf2 fb w.heap.size wk (w.heap.size + 1 + 1) w2) w2 wr ∧ wr.cell? ⟨w.heap.size + 1 + 1, 0, none⟩ = some (.int .i64 0) ∧ wr.frozen? ⟨w.heap.size + 1 + 1, 0, none⟩ = false ∧ wr.cell? ⟨w.heap.size, 0, none⟩ = some (.int .i64 s.root)) (fun p _ => L.length - (intOf p).toNat)
    case atStart => exact ⟨0, M1, [.root], by omega, rfl, hM2, hW2, rfl, rfl, Same.refl _ _, fe2, fez2, hgc⟩
    case round =>
      obtain ⟨j, N, U, hj, rfl, x1, x2, x3, x4, x5, x6, x7, x8⟩ := hrel
      clear fe2 fez2 hgc hM2 hW2
      by_cases hlt2 : j < L.length
      · have hb : decide ((j : Int) < L.length) = true := by simpa using hlt2
        have hlti : (j : Int) < L.length := by omega
        obtain ⟨x, hx⟩ : ∃ x, L[j]? = some x := ⟨_, List.getElem?_eq_getElem hlt2⟩
        obtain ⟨g, rfl, hc0⟩ := HP.out.1 j x hx
        have hx256 := HX.out.2.2.1 j x hx
        have hc := hc0 wr x5
        have hdr : (L.map fun (p : Nat) => (p : Int)).drop j = (x : Int) :: (L.map fun (p : Nat) => (p : Int)).drop (j + 1) := by
          rw [List.drop_eq_getElem_cons (by simpa using hlt2)]
          simp [(List.getElem?_eq_some_iff.1 hx).2]
        rw [hdr, Mm.forkU] at x4
        have hwlk := walk_any x1 s.root x (by constructor <;> omega)
        obtain ⟨ST, hST⟩ : ∃ ST, ST = N.forkStep k s.root x := ⟨_, rfl⟩
        rw [← hST] at x4
        have hSTd := hST
        unfold Mm.forkStep at hST
        obtain ⟨⟨fr, fl, we⟩, hWK⟩ : ∃ y, y = N.walk s.root x := ⟨_, rfl⟩
        rw [← hWK] at hwlk hST
        simp only at hwlk hST
        have HY := Lib.hid (And.intro x2 (And.intro x4 (And.intro x5 (And.intro hST hSTd))))
        have hE9 := World.block_lt_of_cell? _ _ x6
        simp only at hE9
        clear x2 x4 x5 hdr hx hc0 hWK hST hSTd
        go_wp2_with fail
        refine hwlk.mono ?_
        rintro e w3 ⟨rfl, hs3⟩
        have y6 := hs3.cell x6 (by simp)
        have y7 := hs3.unfrozen x6 x7 (by simp)
        have y8 := hs3.cell x8 (by simp)
        have hz3 := hs3.size
        obtain ⟨x2, x4, x5, hST, hSTd⟩ := HY.out
        have hM3 := x1.same0 hs3
        have hW3 := x2.same0 hs3
        have hX3 : ∀ y, y < A.heap.size → y < w3.heap.size := fun y hy => by have := x5.size; omega
        clear hwlk x6 x7 x8 hc
        have n8 : ∀ b, b = w.heap.size ∨ b = w.heap.size + 1 + 1 → ∀ w4, Same (fun _ => False) w3 w4 → ¬ Wf fb w.heap.size wk w4 b := fun b hb w4 h4 => by
          obtain ⟨hcell, n0, sh2, S2, R2, hs2, hown⟩ := HP.out
          obtain ⟨hMm, hvv, hsA, S0, R0, e0, ez, s0, s1, s2⟩ := H.out
          have hz24 := x5.size
          rcases hb with rfl | rfl
          · exact wf_free ((h4.shp _ (by omega)).trans ((hs3.shp _ (by omega)).trans ((x5.shp _ (by omega)).trans ((sh2 _ (by omega)).trans s0)))) (by omega) (by omega) (by simp)
          · exact wf_free ((h4.shp _ (by omega)).trans ((hs3.shp _ (by omega)).trans ((x5.shp _ (by omega)).trans ((sh2 _ (by omega)).trans s2)))) (by omega) (by omega) (by simp)
        by_cases hbit : bits .and .i64 fl 4 = 0
        · have hbb : (bits .and .i64 fl 4 == 0) = true := by simpa using hbit
          rw [if_pos hbit] at hST
          have hrd := read64_any hM3 fr
          have HH := Lib.hid (And.intro hM3 (And.intro hW3 (And.intro hs3 (And.intro @n8 hST))))
          clear hM3 hW3 hs3 n8 hST hSTd x2 x4 x5 hX3
          go_wp2_with fail
          refine hrd.mono ?_
          rintro e w3b ⟨er3, rfl, hs3b⟩
          obtain ⟨hM3, hW3, hs3, n8, hST⟩ := HH.out
          obtain ⟨x2, x4, x5, hST0, hSTd⟩ := HY.out
          have q6 := hs3b.cell y6 (by simp)
          have q7 := hs3b.unfrozen y6 y7 (by simp)
          have q8 := hs3b.cell y8 (by simp)
          have hs3 := hs3.trans hs3b
          have hfa := filled_any (hM3.same0 hs3b) (hW3.same0 hs3b) (fun y hy => by have := x5.size; have := hs3.size; omega) (by omega) x fl (N.rd fr) (by constructor <;> omega) (N.rd_size fr) (N.fresh_used k x fl)
          obtain ⟨⟨M4, er⟩, hFI⟩ : ∃ y, y = N.filled k x fl (N.rd fr) := ⟨_, rfl⟩
          rw [← hFI] at hfa hST
          simp only at hfa
          have n9 := n8 (w.heap.size + 1 + 1) (.inr rfl) _ hs3b
          have n10 := n8 (w.heap.size) (.inl rfl) _ hs3b
          have HSTE : ST = (M4, er) := hST
          have HG := Lib.hid (And.intro hs3 (And.intro HSTE (And.intro n9 n10)))
          clear hM3 hW3 hs3 n8 hST hSTd x2 x4 x5 hST0 HSTE hFI n9 n10 hs3b y6 y7 y8 hrd
          go_wp2_with fail
          refine hfa.mono ?_
          rintro e w4 ⟨rfl, hM4, hW4, hs4⟩
          obtain ⟨hs3, HSTE, n9, n10⟩ := HG.out
          have r6 := hs4.cell q6 n9
          have r7 := hs4.unfrozen q6 q7 n9
          have r8 := hs4.cell q8 n10
          clear hfa q6 q7 q8
          by_cases he : er = 0
          · subst he
            go_wp2
            go_roundw
            case rel =>
              obtain ⟨hR2, hL, hLb, sh5, F5, FR, hW5', hM5, s05⟩ := HX.out
              obtain ⟨hcell, n0, sh2, S2, R2, hs2, hown⟩ := HP.out
              obtain ⟨x2, x4, x5, hST, hSTd⟩ := HY.out
              obtain ⟨hMm, hvv, hsA, S0, R0, e0, ez, s0, s1, s2⟩ := H.out
              have hsE : Same (· = w.heap.size + 1 + 1) w4 (w4.setCell ⟨w.heap.size + 1 + 1, 0, none⟩ (.int .i64 0)) := (Same.refl _ _).setCell _ (.inr rfl)
              have s24 : Same (Wf2 fb w.heap.size wk (w.heap.size + 1 + 1) w2) w2 w4 := x5.w2trans (hs3.w0.w2trans hs4.w2)
              have hz24 := s24.size
              rw [HSTE] at x4
              simp only [if_true] at x4
              have hE4 := World.block_lt_of_cell? _ _ r6
              simp only at hE4
              refine ⟨j + 1, M4, U ++ [.page x], by omega, by go_num, hM4.same hsE (by omega) (by omega), ?_, by rw [List.length_append, List.length_singleton, x3], x4, s24.w2trans hsE.we, World.cell?_setCell_same _ _ _ r6, by rw [World.frozen?_setCell]; exact r7, hsE.cell r8 (by simp; omega)⟩
              refine WorkAt.same (by simpa [pushed] using hW4) hsE fun b hb => ?_
              subst hb
              exact free_shape ((s24.shp _ (by omega)).trans ((sh2 _ (by omega)).trans s2)) (by simp)
            case measure => simp [intOf]; omega
          · have hb2 : (er == 0) = false := by simpa using he
            have h11 : er = 11 := by have := Mm.forkStep_err N k s.root x; rw [← HY.out.2.2.2.2, HSTE] at this; simp only at this; omega
            subst h11
            have hE4 := World.block_lt_of_cell? _ _ r6
            simp only at hE4
            obtain ⟨hR2, hL, hLb, sh5, F5, FR, hW5', hM5, s05⟩ := HX.out
            obtain ⟨hcell, n0, sh2, S2, R2, hs2, hown⟩ := HP.out
            obtain ⟨x2, x4, x5, hST, hSTd⟩ := HY.out
            have s24 : Same (Wf2 fb w.heap.size wk (w.heap.size + 1 + 1) w2) w2 w4 := x5.w2trans (hs3.w0.w2trans hs4.w2)
            have R4 := R2.same s24 (n0 _ (Same.refl _ _) _ (.inr rfl))
            obtain ⟨W7, hW7⟩ : ∃ W7, W7 = w4.setCell ⟨w.heap.size + 1 + 1, 0, none⟩ (.int .i64 11) := ⟨_, rfl⟩
            have hsE : Same (· = w.heap.size + 1 + 1) w4 W7 := by rw [hW7]; exact (Same.refl _ _).setCell _ (.inr rfl)
            obtain ⟨f0, f1, f2, f3, f4, ff⟩ := R4.same hsE (by omega)
            have ff0 := ff 0
            have ff1 := ff 1
            have ff2 := ff 2
            have ff3 := ff 3
            have ff4 := ff 4
            have fe : W7.cell? ⟨w.heap.size + 1 + 1, 0, none⟩ = some (.int .i64 11) := by rw [hW7]; exact World.cell?_setCell_same _ _ _ r6
            have fez : W7.frozen? ⟨w.heap.size + 1 + 1, 0, none⟩ = false := by rw [hW7, World.frozen?_setCell]; exact r7
            have HZ := Lib.hid (And.intro hW7 (And.intro hsE (And.intro hM4 (And.intro hW4 (And.intro hs4 (And.intro s24 HSTE))))))
            clear ff hsE hM4 hW4 hs4 s24 R4 hR2 hL hLb sh5 F5 FR hW5' hM5 s05 hcell n0 sh2 S2 R2 hs2 hown x2 x4 x5 hST hSTd HSTE hs3 n9 n10 he
            go_wp2
            rw [← HZ.out.1]
            clear hW7
            go_region
            go_wp2
            obtain ⟨W6, hW6⟩ : ∃ W6, W6 = ((((((W7.setCell ⟨w.heap.size + 1, 0, none⟩ (.int .i64 0)).setCell ⟨w.heap.size + 1, 1, none⟩ (.int .i64 0)).setCell ⟨w.heap.size + 1, 2, none⟩ (.int .i64 0)).setCell ⟨w.heap.size + 1, 3, none⟩ (.int .i64 0)).setCell ⟨w.heap.size + 1, 4, none⟩ (.slice none 0 0)).setCell ⟨w.heap.size + 1 + 1, 0, none⟩ (.int .i64 11)).drew := ⟨_, rfl⟩
            rw [← hW6]
            obtain ⟨⟨k0, k1, k2, k3, k4⟩, fe6, s56⟩ := put5e hW6 f0 f1 f2 f3 f4 fe (by omega)
            clear hW6 f0 f1 f2 f3 f4 fe ff0 ff1 ff2 ff3 ff4 fez
            obtain ⟨-, hsE, hM4, hW4, hs4, s24, HSTE⟩ := HZ.out
            obtain ⟨hR2, hL, hLb, sh5, F5, FR, hW5', hM5, s05⟩ := HX.out
            obtain ⟨hcell, n0, sh2, S2, R2, hs2, hown⟩ := HP.out
            obtain ⟨x2, x4, x5, hST, hSTd⟩ := HY.out
            obtain ⟨hMm, hvv, hsA, S0, R0, e0, ez, s0, s1, s2⟩ := H.out
            have hz24 := s24.size
            have s46 : Same (fun b => b = w.heap.size + 1 + 1 ∨ b = w.heap.size + 1) w4 W6 := (hsE.mono (fun _ _ h => .inl h)).trans s56
            have sh4 : ∀ b, b < A.heap.size → w4.shape? b = A.shape? b := fun b hb => (s24.shp b (by omega)).trans (sh2 b hb)
            have hfree : ∀ b, b = w.heap.size + 1 + 1 ∨ b = w.heap.size + 1 → Free w4 (fun x => x < A.heap.size) b := fun b hb => by
              rcases hb with rfl | rfl
              · exact free_shape ((sh4 _ (by omega)).trans s2) (by simp)
              · exact free_shape ((sh4 _ (by omega)).trans s1) (by simp)
            have hW6' := (WorkAt.same (by simpa [pushed] using hW4) s46 hfree : WorkAt W6 w.heap.size wk f k (fun x => x < A.heap.size) U)
            have hM6 := hM4.same s46 (by omega) (by omega)
            refine Go.leaves_cons (f := 83) (args := #[.pointer (some ⟨wk, 0, none⟩), .pointer (some ⟨w.heap.size + 1 + 1, 0, none⟩)]) (by simp) (by simp [go_sem]) ?_
            refine (callsDIn_wide (ends_err hM6 hW6' (by omega) fe6 (by omega))).mono ?_
            rintro e u' w7 ⟨rfl, ⟨v, rfl⟩, hM7, hs7⟩
            have hR7 : R = (M4.undo k U.reverse, (k : Int), 11) := by
              rw [HSTE] at x4
              simp only [Int.reduceEq, if_false] at x4
              rw [hR2, Mm.pgs, ← hL, x4]
            rw [hR7]
            exact ⟨_, results_cells2 rfl (by rfl) (by rfl) (loadVar75 _ _ _ _ _ _ _ (hs7.cell k0 (by simp; omega)) (hs7.cell k1 (by simp; omega)) (hs7.cell k2 (by simp; omega)) (hs7.cell k3 (by simp; omega)) (hs7.cell k4 (by simp; omega))) (loadVar25 _ _ _ (hs7.cell fe6 (by simp; omega))), hM7,
              (((s05.trans (hs2.mono (T := fun b => b = fb ∨ w.heap.size ≤ b) (fun _ _ h => h.elim))).trans (s24.w2base (by have := hW5'.hb; omega) (by omega))).trans ((s46.mono (T := fun b => b = fb ∨ w.heap.size ≤ b) (fun b _ h => by omega)).trans (hs7.mono (T := fun b => b = fb ∨ w.heap.size ≤ b) (fun b _ h => .inl h)))).mono (fun b hb h => by omega),
              .inr ⟨by simp, rfl⟩⟩
        · have hbb : (bits .and .i64 fl 4 == 0) = false := by simpa using hbit
          rw [if_neg hbit] at hST
          have hfa := shared_any hM3 hW3 (fun y hy => by have := x5.size; omega) (by omega) x fr fl (by constructor <;> omega)
          obtain ⟨⟨M4, er⟩, hFI⟩ : ∃ y, y = N.shared k x fr fl := ⟨_, rfl⟩
          rw [← hFI] at hfa hST
          simp only at hfa
          have n9 := n8 (w.heap.size + 1 + 1) (.inr rfl) _ (Same.refl _ _)
          have n10 := n8 (w.heap.size) (.inl rfl) _ (Same.refl _ _)
          have HSTE : ST = (M4, er) := hST
          have HG := Lib.hid (And.intro hs3 (And.intro HSTE (And.intro n9 n10)))
          clear hM3 hW3 hs3 n8 hST hSTd x2 x4 x5 HSTE hFI n9 n10 hX3
          go_wp2_with fail
          refine hfa.mono ?_
          rintro e w4 ⟨rfl, hM4, hW4, hs4⟩
          obtain ⟨hs3, HSTE, n9, n10⟩ := HG.out
          have r6 := hs4.cell y6 n9
          have r7 := hs4.unfrozen y6 y7 n9
          have r8 := hs4.cell y8 n10
          clear hfa y6 y7 y8
          by_cases he : er = 0
          · subst he
            go_wp2
            go_roundw
            case rel =>
              obtain ⟨hR2, hL, hLb, sh5, F5, FR, hW5', hM5, s05⟩ := HX.out
              obtain ⟨hcell, n0, sh2, S2, R2, hs2, hown⟩ := HP.out
              obtain ⟨x2, x4, x5, hST, hSTd⟩ := HY.out
              obtain ⟨hMm, hvv, hsA, S0, R0, e0, ez, s0, s1, s2⟩ := H.out
              have hsE : Same (· = w.heap.size + 1 + 1) w4 (w4.setCell ⟨w.heap.size + 1 + 1, 0, none⟩ (.int .i64 0)) := (Same.refl _ _).setCell _ (.inr rfl)
              have s24 : Same (Wf2 fb w.heap.size wk (w.heap.size + 1 + 1) w2) w2 w4 := x5.w2trans (hs3.w0.w2trans hs4.w2)
              have hz24 := s24.size
              rw [HSTE] at x4
              simp only [if_true] at x4
              have hE4 := World.block_lt_of_cell? _ _ r6
              simp only at hE4
              refine ⟨j + 1, M4, U ++ [.page x], by omega, by go_num, hM4.same hsE (by omega) (by omega), ?_, by rw [List.length_append, List.length_singleton, x3], x4, s24.w2trans hsE.we, World.cell?_setCell_same _ _ _ r6, by rw [World.frozen?_setCell]; exact r7, hsE.cell r8 (by simp; omega)⟩
              refine WorkAt.same (by simpa [pushed] using hW4) hsE fun b hb => ?_
              subst hb
              exact free_shape ((s24.shp _ (by omega)).trans ((sh2 _ (by omega)).trans s2)) (by simp)
            case measure => simp [intOf]; omega
          · have hb2 : (er == 0) = false := by simpa using he
            have h11 : er = 11 := by have := Mm.forkStep_err N k s.root x; rw [← HY.out.2.2.2.2, HSTE] at this; simp only at this; omega
            subst h11
            have hE4 := World.block_lt_of_cell? _ _ r6
            simp only at hE4
            obtain ⟨hR2, hL, hLb, sh5, F5, FR, hW5', hM5, s05⟩ := HX.out
            obtain ⟨hcell, n0, sh2, S2, R2, hs2, hown⟩ := HP.out
            obtain ⟨x2, x4, x5, hST, hSTd⟩ := HY.out
            have s24 : Same (Wf2 fb w.heap.size wk (w.heap.size + 1 + 1) w2) w2 w4 := x5.w2trans (hs3.w0.w2trans hs4.w2)
            have R4 := R2.same s24 (n0 _ (Same.refl _ _) _ (.inr rfl))
            obtain ⟨W7, hW7⟩ : ∃ W7, W7 = w4.setCell ⟨w.heap.size + 1 + 1, 0, none⟩ (.int .i64 11) := ⟨_, rfl⟩
            have hsE : Same (· = w.heap.size + 1 + 1) w4 W7 := by rw [hW7]; exact (Same.refl _ _).setCell _ (.inr rfl)
            obtain ⟨f0, f1, f2, f3, f4, ff⟩ := R4.same hsE (by omega)
            have ff0 := ff 0
            have ff1 := ff 1
            have ff2 := ff 2
            have ff3 := ff 3
            have ff4 := ff 4
            have fe : W7.cell? ⟨w.heap.size + 1 + 1, 0, none⟩ = some (.int .i64 11) := by rw [hW7]; exact World.cell?_setCell_same _ _ _ r6
            have fez : W7.frozen? ⟨w.heap.size + 1 + 1, 0, none⟩ = false := by rw [hW7, World.frozen?_setCell]; exact r7
            have HZ := Lib.hid (And.intro hW7 (And.intro hsE (And.intro hM4 (And.intro hW4 (And.intro hs4 (And.intro s24 HSTE))))))
            clear ff hsE hM4 hW4 hs4 s24 R4 hR2 hL hLb sh5 F5 FR hW5' hM5 s05 hcell n0 sh2 S2 R2 hs2 hown x2 x4 x5 hST hSTd HSTE hs3 n9 n10 he
            go_wp2
            rw [← HZ.out.1]
            clear hW7
            go_region
            go_wp2
            obtain ⟨W6, hW6⟩ : ∃ W6, W6 = ((((((W7.setCell ⟨w.heap.size + 1, 0, none⟩ (.int .i64 0)).setCell ⟨w.heap.size + 1, 1, none⟩ (.int .i64 0)).setCell ⟨w.heap.size + 1, 2, none⟩ (.int .i64 0)).setCell ⟨w.heap.size + 1, 3, none⟩ (.int .i64 0)).setCell ⟨w.heap.size + 1, 4, none⟩ (.slice none 0 0)).setCell ⟨w.heap.size + 1 + 1, 0, none⟩ (.int .i64 11)).drew := ⟨_, rfl⟩
            rw [← hW6]
            obtain ⟨⟨k0, k1, k2, k3, k4⟩, fe6, s56⟩ := put5e hW6 f0 f1 f2 f3 f4 fe (by omega)
            clear hW6 f0 f1 f2 f3 f4 fe ff0 ff1 ff2 ff3 ff4 fez
            obtain ⟨-, hsE, hM4, hW4, hs4, s24, HSTE⟩ := HZ.out
            obtain ⟨hR2, hL, hLb, sh5, F5, FR, hW5', hM5, s05⟩ := HX.out
            obtain ⟨hcell, n0, sh2, S2, R2, hs2, hown⟩ := HP.out
            obtain ⟨x2, x4, x5, hST, hSTd⟩ := HY.out
            obtain ⟨hMm, hvv, hsA, S0, R0, e0, ez, s0, s1, s2⟩ := H.out
            have hz24 := s24.size
            have s46 : Same (fun b => b = w.heap.size + 1 + 1 ∨ b = w.heap.size + 1) w4 W6 := (hsE.mono (fun _ _ h => .inl h)).trans s56
            have sh4 : ∀ b, b < A.heap.size → w4.shape? b = A.shape? b := fun b hb => (s24.shp b (by omega)).trans (sh2 b hb)
            have hfree : ∀ b, b = w.heap.size + 1 + 1 ∨ b = w.heap.size + 1 → Free w4 (fun x => x < A.heap.size) b := fun b hb => by
              rcases hb with rfl | rfl
              · exact free_shape ((sh4 _ (by omega)).trans s2) (by simp)
              · exact free_shape ((sh4 _ (by omega)).trans s1) (by simp)
            have hW6' := (WorkAt.same (by simpa [pushed] using hW4) s46 hfree : WorkAt W6 w.heap.size wk f k (fun x => x < A.heap.size) U)
            have hM6 := hM4.same s46 (by omega) (by omega)
            refine Go.leaves_cons (f := 83) (args := #[.pointer (some ⟨wk, 0, none⟩), .pointer (some ⟨w.heap.size + 1 + 1, 0, none⟩)]) (by simp) (by simp [go_sem]) ?_
            refine (callsDIn_wide (ends_err hM6 hW6' (by omega) fe6 (by omega))).mono ?_
            rintro e u' w7 ⟨rfl, ⟨v, rfl⟩, hM7, hs7⟩
            have hR7 : R = (M4.undo k U.reverse, (k : Int), 11) := by
              rw [HSTE] at x4
              simp only [Int.reduceEq, if_false] at x4
              rw [hR2, Mm.pgs, ← hL, x4]
            rw [hR7]
            exact ⟨_, results_cells2 rfl (by rfl) (by rfl) (loadVar75 _ _ _ _ _ _ _ (hs7.cell k0 (by simp; omega)) (hs7.cell k1 (by simp; omega)) (hs7.cell k2 (by simp; omega)) (hs7.cell k3 (by simp; omega)) (hs7.cell k4 (by simp; omega))) (loadVar25 _ _ _ (hs7.cell fe6 (by simp; omega))), hM7,
              (((s05.trans (hs2.mono (T := fun b => b = fb ∨ w.heap.size ≤ b) (fun _ _ h => h.elim))).trans (s24.w2base (by have := hW5'.hb; omega) (by omega))).trans ((s46.mono (T := fun b => b = fb ∨ w.heap.size ≤ b) (fun b _ h => by omega)).trans (hs7.mono (T := fun b => b = fb ∨ w.heap.size ≤ b) (fun b _ h => .inl h)))).mono (fun b hb h => by omega),
              .inr ⟨by simp, rfl⟩⟩
      · have hb : decide ((j : Int) < L.length) = false := by simp; omega
        have hnil : (L.map fun (p : Nat) => (p : Int)).drop j = [] := List.drop_eq_nil_of_le (by simp; omega)
        rw [hnil, Mm.forkU] at x4
        obtain ⟨hR2, hL, hLb, sh5, F5, FR, hW5', hM5, s05⟩ := HX.out
        obtain ⟨hcell, n0, sh2, S2, R2, hs2, hown⟩ := HP.out
        obtain ⟨hMm, hvv, hsA, S0, R0, e0, ez, s0, s1, s2⟩ := H.out
        have hR7 : R = (N, (k : Int), 0) := by rw [hR2, Mm.pgs, ← hL, x4]
        have d1 := x2.c1
        obtain ⟨f0, f1, f2, f3, f4, ff⟩ := S2.same x5 (n0 _ (Same.refl _ _) _ (.inl rfl))
        have ff0 := ff 0
        obtain ⟨g0, g1, g2, g3, g4, gf⟩ := R2.same x5 (n0 _ (Same.refl _ _) _ (.inr rfl))
        have gf0 := gf 0
        have gf1 := gf 1
        have gf2 := gf 2
        have gf3 := gf 3
        have gf4 := gf 4
        have hz5 := x5.size
        have shr : ∀ b, b < A.heap.size → wr.shape? b = A.shape? b := fun b hb => (x5.shp b (by omega)).trans (sh2 b hb)
        have sw : Same (fun b => b = fb ∨ w.heap.size ≤ b) w wr := (s05.trans (hs2.mono (T := fun b => b = fb ∨ w.heap.size ≤ b) (fun _ _ h => h.elim))).trans (x5.w2base (by have := hW5'.hb; omega) (by omega))
        have hAr : AttO wr (.slice va s.atts.length vc) s.atts := by
          refine hvv.same sw fun b hb n hn => ?_
          obtain ⟨m, hm⟩ := hMm.sh
          rcases hb with rfl | hb
          · rw [hm] at hn; cases hn
          · have : w.shape? b = none := by unfold World.shape?; rw [Array.getElem?_eq_none hb]
            rw [this] at hn; cases hn
        have how := own_any (wr.setCell ⟨w.heap.size, 0, none⟩ (.int .i64 k)) k s.text s.data s.heap (.slice va s.atts.length vc) s.atts (hAr.same ((Same.refl (· = w.heap.size) _).setCell _ (.inr rfl)) (fun b hb m hm => by rw [hb, shr _ (by omega), s0] at hm; cases hm)) (by omega)
        have hE6 := World.block_lt_of_cell? _ _ x6
        simp only at hE6
        have hwkS : wk ≠ w.heap.size := by omega
        have HZ := Lib.hid (And.intro hR7 (And.intro x1 (And.intro sw (And.intro ((shr _ (by omega)).trans s1) ((shr _ (by omega)).trans s2)))))
        clear hR7 x1 x2 x4 x5 sw shr hnil hR2 hL hLb sh5 F5 FR hW5' hM5 s05 hcell n0 sh2 S2 R2 hs2 hown hMm hvv hsA S0 R0 e0 ez s0 s1 s2 ff gf hAr
        go_wp2_with fail
        refine how.mono ?_
        rintro e w5 ⟨v', rfl, hown, hs5⟩
        obtain ⟨va', vc', rfl⟩ := own_slice hown
        have s05 : Same (· = w.heap.size) wr w5 := ((Same.refl (· = w.heap.size) _).setCell _ (.inr rfl)).trans (hs5.mono (fun _ _ h => h.elim))
        have g0' := s05.cell g0 (by simp)
        have g1' := s05.cell g1 (by simp)
        have g2' := s05.cell g2 (by simp)
        have g3' := s05.cell g3 (by simp)
        have g4' := s05.cell g4 (by simp)
        have gf0' := s05.unfrozen g0 gf0 (by simp)
        have gf1' := s05.unfrozen g1 gf1 (by simp)
        have gf2' := s05.unfrozen g2 gf2 (by simp)
        have gf3' := s05.unfrozen g3 gf3 (by simp)
        have gf4' := s05.unfrozen g4 gf4 (by simp)
        have x6' := s05.cell x6 (by simp; omega)
        have x7' := s05.unfrozen x6 x7 (by simp; omega)
        have HO := Lib.hid (And.intro hown s05)
        clear how hown hs5 s05 f0 f1 f2 f3 f4 g0 g1 g2 g3 g4 gf0 gf1 gf2 gf3 gf4 x6 x7 ff0 d1 x8
        go_wp2
        obtain ⟨W6, hW6⟩ : ∃ W6, W6 = (((((w5.setCell ⟨w.heap.size + 1, 0, none⟩ (.int .i64 k)).setCell ⟨w.heap.size + 1, 1, none⟩ (.int .i64 s.text)).setCell ⟨w.heap.size + 1, 2, none⟩ (.int .i64 s.data)).setCell ⟨w.heap.size + 1, 3, none⟩ (.int .i64 s.heap)).setCell ⟨w.heap.size + 1, 4, none⟩ (.slice va' s.atts.length vc')).setCell ⟨w.heap.size + 1 + 1, 0, none⟩ (.int .i64 0) := ⟨_, rfl⟩
        rw [← hW6]
        obtain ⟨⟨k0, k1, k2, k3, k4⟩, fe6, s56⟩ := put5f hW6 g0' g1' g2' g3' g4' x6' (by omega)
        clear hW6 g0' g1' g2' g3' g4' gf0' gf1' gf2' gf3' gf4' x6' x7'
        obtain ⟨hR7, hMf, sw, t1, t2⟩ := HZ.out
        obtain ⟨hown, s05⟩ := HO.out
        have hz5 := s05.size
        have hsr : w.heap.size ≤ wr.heap.size := by omega
        refine Go.leaves_cons (f := 83) (args := #[.pointer (some ⟨wk, 0, none⟩), .pointer (some ⟨w.heap.size + 1 + 1, 0, none⟩)]) (by simp) (by simp [go_sem]) ?_
        refine (callsDIn_wide (ends_ok W6 _ _ .returning fe6)).mono ?_
        rintro e u' w7 ⟨rfl, ⟨v, rfl⟩, rfl⟩
        rw [hR7]
        refine ⟨_, results_cells2 rfl (by rfl) (by rfl) (loadVar75 _ _ _ _ _ _ _ k0 k1 k2 k3 k4) (loadVar25 _ _ _ fe6), (hMf.same s05 (by omega) (by omega)).same s56 (by omega) (by omega), ?_, .inl ⟨rfl, .slice va' s.atts.length vc', ?_, ?_⟩⟩
        · exact ((sw.trans' (s05.mono (T := fun b => b = fb ∨ w.heap.size ≤ b) (fun b _ h => by omega)) (fun b h _ => h)).trans' (s56.mono (T := fun b => b = fb ∨ w.heap.size ≤ b) (fun b _ h => by omega)) (fun b h _ => h)).mono (fun b hb h => by omega)
        · rfl
        · refine AttO.same (ownsRow_base hown (Nat.zero_le _) : AttO w5 _ s.atts) s56 fun b hb m hm => ?_
          rcases hb with rfl | rfl
          · rw [s05.shp _ (by omega), t2] at hm; cases hm
          · rw [s05.shp _ (by omega), t1] at hm; cases hm
end Go.Proofs.Ytlbgnmcjdmdjpaa
/- Package space: leaves. -/
namespace Go.Proofs.Ytlbgnmcjdmdjpaa
open Go.RowKit Go.Shelf
attribute [local go_sem] Oper.semAt_some

theorem leaves_any (w : World) (s : ByteArray) : Calls Try.prog 84 #[.string s] w fun e w' => e = .returned (.func (.func 112) #[] #[.pointer (some ⟨w.heap.size, 0, none⟩)]) ∧ w' = w.alloc (.cells #[.string s] 9) := by
  go_enter Try.func84, Try.ntmps84
  go_wp2
  go_ret
  exact ⟨rfl, rfl⟩

def lk (s : ByteArray) : Nat := min s.size 64
def Sx (W : World) (sb : Nat) (s : ByteArray) : Prop := W.cell? ⟨sb, 0, none⟩ = some (.string s) ∧ W.frozen? ⟨sb, 0, none⟩ = false
theorem Sx.same {W W' : World} {sb : Nat} {s : ByteArray} {S : Nat → Prop} (h : Sx W sb s) (hs : Same S W W') (h1 : ¬ S sb) : Sx W' sb s := ⟨hs.cell h.1 h1, hs.unfrozen h.1 h.2 h1⟩
theorem Sx.lt {W : World} {sb : Nat} {s : ByteArray} (h : Sx W sb s) : sb < W.heap.size := World.block_lt_of_cell? _ _ h.1
theorem size_rest (s : ByteArray) (k : Nat) (h : k ≤ s.size) : (s.extract k s.size).size = s.size - k := by rw [ByteArray.size_extract]; omega

set_option maxHeartbeats 800000 in
theorem leaves1 (l sb : Nat) (I : ByteArray → World → Prop) (Jx : World → Prop)
    (hI : ∀ s W W', I s W → Same (· = sb) W W' → I s W')
    (hy : ∀ s W, 0 < s.size → s.size ≤ 9223372036854775807 → Sx W sb s → I s W → YieldAt Fence.wide 0 Try.prog l #[.string (s.extract 0 (lk s))] W fun e W' =>
      (e = .returned (.bool true) ∧ Sx W' sb s ∧ I (s.extract (lk s) s.size) W') ∨ (e = .returned (.bool false) ∧ Jx W'))
    (w : World) (s0 : ByteArray) (hz0 : s0.size ≤ 9223372036854775807) (h0 : I s0 w) (hb : Sx w sb s0) :
    Calls Try.prog 112 #[.func (.yield l) #[] #[], .pointer (some ⟨sb, 0, none⟩)] w fun e W => (∃ v, e = .returned v) ∧ ((∃ s, s.size = 0 ∧ I s W) ∨ Jx W) := by
  refine (callsIn_wide (n := 0)).1 ?_
  refine callsIn_of_wp Try.func112 rfl trivial ?_ rfl
  simp only [Try.ntmps112, List.size_toArray, List.length_cons, List.length_nil, Nat.reduceAdd, Nat.reduceSub, Array.replicate_succ, Array.replicate_zero, List.push_toArray, List.append_toArray, List.nil_append, List.cons_append]
  gi_wp2
  gi_loopw [3] (fun _ wr => ∃ s : ByteArray, s.size ≤ 9223372036854775807 ∧ Sx wr sb s ∧ I s wr) (fun _ wr => match wr.cell? ⟨sb, 0, none⟩ with | some (.string s) => s.size | _ => 0)
  case atStart => exact ⟨s0, hz0, hb, h0⟩
  case round =>
    obtain ⟨s, hz, hB, hJ⟩ := hrel
    have HB := Lib.hid hB
    have HJ := Lib.hid hJ
    have hlt := hB.lt
    obtain ⟨b1, b2⟩ := hB
    clear hJ hb h0 hz0
    by_cases hn : 0 < s.size
    · have hne : s.toList.isEmpty = false := by
        rw [ByteArray.toList_eq]
        have := Lib.size_eq s
        cases hs : s.data.toList with
        | nil => rw [hs, List.length_nil] at this; omega
        | cons a l => rfl
      have hyk := hy s wr hn hz HB.out HJ.out
      obtain ⟨fn, tmps, assign, body, hye, hR⟩ := hyk
      have hmin : min (s.size : Int) 64 = ((lk s : Nat) : Int) := by unfold lk; omega
      have hk : lk s ≤ s.size ∧ 0 < lk s := by unfold lk; omega
      have hki : ((lk s : Nat) : Int) ≤ s.size := by omega
      have sl1 : ∀ w, (Instr.slice 9 (.string s) none (some (.int .i64 ((lk s : Nat) : Int))) none).run Try.prog w = .ok (.string (s.extract 0 (lk s))) w := by
        intro w; rw [run_slice_string_h w 9 s Try.underlying9 .i64 ((lk s : Nat) : Int) (by omega) (by omega)]; rfl
      have sl2 : ∀ w, (Instr.slice 9 (.string s) (some (.int .i64 ((lk s : Nat) : Int))) none none).run Try.prog w = .ok (.string (s.extract (lk s) s.size)) w := by
        intro w; rw [run_slice_string_l w 9 s Try.underlying9 .i64 ((lk s : Nat) : Int) (by omega) (by omega)]; rfl
      gi_wp2
      refine hR.mono ?_
      rintro e W3 (⟨rfl, hB3, hJ3⟩ | ⟨rfl, hJx3⟩)
      · obtain ⟨d1, d2⟩ := hB3
        obtain ⟨W4, hW4⟩ : ∃ W4, W4 = W3.setCell ⟨sb, 0, none⟩ (.string (s.extract (lk s) s.size)) := ⟨_, rfl⟩
        have hs4 : Same (· = sb) W3 W4 := by rw [hW4]; exact (Same.refl _ _).setCell _ (.inr rfl)
        have e1 : W4.cell? ⟨sb, 0, none⟩ = some (.string (s.extract (lk s) s.size)) := by rw [hW4]; exact World.cell?_setCell_same _ _ _ d1
        have e2 : W4.frozen? ⟨sb, 0, none⟩ = false := by rw [hW4, World.frozen?_setCell]; exact d2
        have HF := Lib.hid (And.intro (show Sx W4 sb (s.extract (lk s) s.size) from ⟨e1, e2⟩) (And.intro (hI _ _ _ hJ3 hs4) e1))
        have HW4 := Lib.hid hW4
        have B1 := Lib.hid b1
        clear hs4 e1 e2 hJ3 hW4 b1 b2
        gi_wp2
        rw [← HW4.out]
        go_roundw
        case rel => exact ⟨s.extract (lk s) s.size, by rw [size_rest s _ hk.1]; omega, HF.out.1, HF.out.2.1⟩
        case measure => rw [HF.out.2.2, B1.out]; simp only; rw [size_rest s _ hk.1]; omega
      · gi_wp2
        exact bodyPost_ret (results_none rfl _ _ _) rfl ⟨⟨_, rfl⟩, .inr hJx3⟩
    · have hn0 : s.size = 0 := by omega
      have hne : s.toList.isEmpty = true := by
        rw [ByteArray.toList_eq]
        have := Lib.size_eq s
        cases hs : s.data.toList with
        | nil => rfl
        | cons a l => rw [hs, List.length_cons] at this; omega
      gi_wp2
      exact bodyPost_end (results_none rfl _ _ _) rfl ⟨⟨_, rfl⟩, .inl ⟨s, hn0, HJ.out⟩⟩
end Go.Proofs.Ytlbgnmcjdmdjpaa
/- Package space: Exec. -/
namespace Go.Proofs.Ytlbgnmcjdmdjpaa
open Go.RowKit Go.Shelf
attribute [local go_sem] Oper.semAt_some

/-- A text's pieces of at most sixty-four bytes. -/
def leavesF : Nat → ByteArray → List ByteArray
  | 0, _ => []
  | n + 1, s => if s.size = 0 then [] else s.extract 0 (lk s) :: leavesF n (s.extract (lk s) s.size)
def leavesL (s : ByteArray) : List ByteArray := leavesF s.size s
theorem leavesF_more : ∀ (n m : Nat) (s : ByteArray), s.size ≤ n → s.size ≤ m → leavesF n s = leavesF m s
  | 0, 0, _, _, _ => rfl
  | 0, m + 1, s, h, _ => by rw [leavesF, leavesF, if_pos (by omega)]
  | n + 1, 0, s, _, h => by rw [leavesF, leavesF, if_pos (by omega)]
  | n + 1, m + 1, s, h1, h2 => by
    rw [leavesF, leavesF]
    split
    · rfl
    · have hk : lk s ≤ s.size ∧ (0 < lk s) := by unfold lk; omega
      rw [leavesF_more n m _ (by rw [size_rest s _ hk.1]; omega) (by rw [size_rest s _ hk.1]; omega)]
theorem leavesL_zero {s : ByteArray} (h : s.size = 0) : leavesL s = [] := by unfold leavesL; rw [h]; rfl
theorem leavesL_step {s : ByteArray} (h : 0 < s.size) : leavesL s = s.extract 0 (lk s) :: leavesL (s.extract (lk s) s.size) := by
  have hk : lk s ≤ s.size ∧ (0 < lk s) := by unfold lk; omega
  unfold leavesL
  obtain ⟨n, hn⟩ : ∃ n, s.size = n + 1 := ⟨s.size - 1, by omega⟩
  conv => lhs; rw [hn]
  rw [leavesF, if_neg (by omega)]
  rw [leavesF_more n _ _ (by rw [size_rest s _ hk.1]; omega) (Nat.le_refl _)]
def itemsL (p : Int) (fl : Int) : List ByteArray → List (Int × Int × ByteArray)
  | [] => []
  | s :: r => (p, fl, s) :: itemsL (p + 1) fl r
def Mm.fillU (root : Int) : Mm → List Und → List (Int × Int × ByteArray) → Mm × Int
  | M, _, [] => (M, 0)
  | M, U, (p, fl, s) :: r => if (M.filled root p fl s).2 = 0 then Mm.fillU root (M.filled root p fl s).1 (U ++ [.page p]) r else ((M.filled root p fl s).1.undo root U.reverse, 11)
def stackL : List (Int × Int × ByteArray) := [(254, 3, ByteArray.empty), (255, 3, ByteArray.empty)]
def imgItems (t d : ByteArray) : List (Int × Int × ByteArray) := itemsL 0 1 (leavesL t) ++ (itemsL ((leavesL t).length : Int) 3 (leavesL d) ++ stackL)
def Mm.exec (M : Mm) (t d : ByteArray) : Mm × Int × Int := match M.least with
  | none => (M, 0, 11)
  | some k => ((Mm.fillU k (M.alloc k) [.root] (imgItems t d)).1, k, (Mm.fillU k (M.alloc k) [.root] (imgItems t d)).2)
/-- An image's head. -/
structure ImgOk (img : ByteArray) (n1 n2 : Nat) : Prop where
  i0 : img.data.toList[0]? = some 88
  i1 : ∃ b : UInt8, img.data.toList[1]? = some b ∧ b.toNat = n1
  i2 : ∃ b : UInt8, img.data.toList[2]? = some b ∧ b.toNat = n2
  sz : img.size = 3 + n1 + n2
theorem index_fact (s : ByteArray) (i : Nat) (b : UInt8) (hi : i < 1000) (h : s.data.toList[i]? = some b) (w : World) : (Instr.index 9 (.string s) (.int .i64 (i : Int))).run Try.prog w = .ok (.int .u8 (b.toNat : Int)) w := by
  have hlt : i < s.data.toList.length := (List.getElem?_eq_some_iff.1 h).1
  have hsz := Lib.size_eq s
  rw [run_index_string w 9 s .i64 (i : Int) Try.underlying9, dif_pos ⟨by omega, by omega⟩]
  have e : (s[(i : Int).toNat]'(by omega)) = b := by
    have h2 := (List.getElem?_eq_some_iff.1 h).2
    cases s with
    | mk d =>
      simp only [Int.toNat_natCast]
      rw [← h2]
      rfl
  rw [e]

theorem bad_put (w : World) (nq : Nat) : let W := ((((((((w.alloc (.cells #[.int .i64 0, .int .i64 0, .int .i64 0, .int .i64 0, .slice none 0 0] 75)).alloc (.cells #[.int .i64 0] 25)).drewN nq).setCell ⟨w.heap.size, 0, none⟩ (.int .i64 0)).setCell ⟨w.heap.size, 1, none⟩ (.int .i64 0)).setCell ⟨w.heap.size, 2, none⟩ (.int .i64 0)).setCell ⟨w.heap.size, 3, none⟩ (.int .i64 0)).setCell ⟨w.heap.size, 4, none⟩ (.slice none 0 0)).setCell ⟨w.heap.size + 1, 0, none⟩ (.int .i64 40)
    (W.cell? ⟨w.heap.size, 0, none⟩ = some (.int .i64 0) ∧ W.cell? ⟨w.heap.size, 1, none⟩ = some (.int .i64 0) ∧ W.cell? ⟨w.heap.size, 2, none⟩ = some (.int .i64 0) ∧ W.cell? ⟨w.heap.size, 3, none⟩ = some (.int .i64 0) ∧ W.cell? ⟨w.heap.size, 4, none⟩ = some (.slice none 0 0)) ∧ W.cell? ⟨w.heap.size + 1, 0, none⟩ = some (.int .i64 40) ∧ Same (fun _ => False) w W := by
  intro W
  have hs : Same (fun _ => False) w ((w.alloc (.cells #[.int .i64 0, .int .i64 0, .int .i64 0, .int .i64 0, .slice none 0 0] 75)).alloc (.cells #[.int .i64 0] 25)) := (same_alloc _).alloc _
  obtain ⟨h1, h2, h3⟩ := put5f (w := (((w.alloc (.cells #[.int .i64 0, .int .i64 0, .int .i64 0, .int .i64 0, .slice none 0 0] 75)).alloc (.cells #[.int .i64 0] 25)).drewN nq)) (W := W) (b := w.heap.size) (e := w.heap.size + 1) (u0 := .int .i64 0) (u1 := .int .i64 0) (u2 := .int .i64 0) (u3 := .int .i64 0) (u4 := .slice none 0 0) (ue := .int .i64 0) rfl (by simp [go_sem]) (by simp [go_sem]) (by simp [go_sem]) (by simp [go_sem]) (by simp [go_sem]) (by simp [go_sem]) (by omega)
  exact ⟨h1, h2, (hs.drewN nq).trans' (h3.mono (T := fun k => w.heap.size ≤ k) (fun k _ h => by omega)) (fun k hk _ => by omega)⟩

set_option maxHeartbeats 3200000 in
set_option maxRecDepth 16384 in
theorem exec_bad {w : World} {f fb : Nat} {M : Mm} (hM : MemAt w f fb M) (img : ByteArray) (hz : img.size ≤ 1000) (hbad : ∀ n1 n2, ¬ ImgOk img n1 n2) :
    Calls Try.prog 46 #[.pointer (some ⟨f, 0, none⟩), .string img] w fun e w' => e = .returned (.tuple #[noSpc, .int .i64 40]) ∧ Same (fun _ => False) w w' := by
  refine (callsIn_wide (n := 0)).1 ?_
  refine callsIn_of_wp_marks Try.func46 rfl trivial ?_ rfl
  simp only [Try.ntmps46, List.size_toArray, List.length_cons, List.length_nil, Nat.reduceAdd, Nat.reduceSub, Array.replicate_succ, Array.replicate_zero, List.push_toArray, List.append_toArray, List.nil_append, List.cons_append]
  by_cases h3 : img.size < 3
  · have hd : decide ((img.size : Int) < 3) = true := by simp; omega
    gi_wp2
    refine wpIn_scope_straight (wpIn_wide.2 ?_)
    go_wp2
    go_quiet (fail)
    go_wp2
    simp only [Exit.noGoto]
    obtain ⟨⟨k0, k1, k2, k3, k4⟩, fe6, s56⟩ := bad_put w nq
    exact leaves_nil (results_cells2 rfl (by rfl) (by rfl) (loadVar75 _ _ _ _ _ _ _ k0 k1 k2 k3 k4) (loadVar25 _ _ _ fe6)) ⟨rfl, s56⟩
  · have hd : decide ((img.size : Int) < 3) = false := by simp; omega
    have hl : 3 ≤ img.data.toList.length := by have := Lib.size_eq img; omega
    obtain ⟨b0, hb0⟩ : ∃ b, img.data.toList[0]? = some b := ⟨_, List.getElem?_eq_getElem (by omega)⟩
    obtain ⟨b1, hb1⟩ : ∃ b, img.data.toList[1]? = some b := ⟨_, List.getElem?_eq_getElem (by omega)⟩
    obtain ⟨b2, hb2⟩ : ∃ b, img.data.toList[2]? = some b := ⟨_, List.getElem?_eq_getElem (by omega)⟩
    have x0 : ∀ w, (Instr.index 9 (.string img) (.int .i64 0)).run Try.prog w = .ok (.int .u8 (b0.toNat : Int)) w := index_fact img 0 b0 (by omega) hb0
    have x1 : ∀ w, (Instr.index 9 (.string img) (.int .i64 1)).run Try.prog w = .ok (.int .u8 (b1.toNat : Int)) w := index_fact img 1 b1 (by omega) hb1
    have x2 : ∀ w, (Instr.index 9 (.string img) (.int .i64 2)).run Try.prog w = .ok (.int .u8 (b2.toNat : Int)) w := index_fact img 2 b2 (by omega) hb2
    have hw0 : b0.toNat < 256 := b0.toNat_lt
    have hw1 : b1.toNat < 256 := b1.toNat_lt
    have hw2 : b2.toNat < 256 := b2.toNat_lt
    by_cases h88 : b0.toNat = 88
    · have e88 : ((b0.toNat : Int) != 88) = false := by simp [h88]
      by_cases hs : img.size = 3 + b1.toNat + b2.toNat
      · exact absurd ⟨by rw [hb0]; congr 1; exact UInt8.toNat_inj.1 h88, ⟨b1, hb1, rfl⟩, ⟨b2, hb2, rfl⟩, hs⟩ (hbad b1.toNat b2.toNat)
      · have es : ((img.size : Int) != 3 + (b1.toNat : Int) + (b2.toNat : Int)) = true := by simp; omega
        have es2 : ((img.size : Int) == 3 + (b1.toNat : Int) + (b2.toNat : Int)) = false := by simp; omega
        have h88' : ((b0.toNat : Int) == 88) = true := by simp [h88]
        clear hs hbad
        gi_wp2
        refine wpIn_scope_straight (wpIn_wide.2 ?_)
        go_wp2
        go_quiet (fail)
        go_wp2
        simp only [Exit.noGoto]
        obtain ⟨⟨k0, k1, k2, k3, k4⟩, fe6, s56⟩ := bad_put w nq
        exact leaves_nil (results_cells2 rfl (by rfl) (by rfl) (loadVar75 _ _ _ _ _ _ _ k0 k1 k2 k3 k4) (loadVar25 _ _ _ fe6)) ⟨rfl, s56⟩
    · have e88 : ((b0.toNat : Int) != 88) = true := by simp; omega
      have h88' : ((b0.toNat : Int) == 88) = false := by simp; omega
      clear h88 hbad
      gi_wp2
      refine wpIn_scope_straight (wpIn_wide.2 ?_)
      go_wp2
      go_quiet (fail)
      go_wp2
      simp only [Exit.noGoto]
      obtain ⟨⟨k0, k1, k2, k3, k4⟩, fe6, s56⟩ := bad_put w nq
      exact leaves_nil (results_cells2 rfl (by rfl) (by rfl) (loadVar75 _ _ _ _ _ _ _ k0 k1 k2 k3 k4) (loadVar25 _ _ _ fe6)) ⟨rfl, s56⟩
end Go.Proofs.Ytlbgnmcjdmdjpaa
