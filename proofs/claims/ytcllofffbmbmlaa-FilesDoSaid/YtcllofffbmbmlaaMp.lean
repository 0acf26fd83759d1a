/- Maps told as lists of pairs: what a lookup, a store and a delete come to. Conditions: a law of the key's type. -/
import Derived.Test.YtcllofffbmbmlaaLib
import Derived.MapKept
import Derived.Laws.Entries
namespace Go.Proofs.Ytcllofffbmbmlaa
open Go.RowKit Go.Shelf

theorem runGet {P : Program} {w : World} {r : Nat} {es : Array MapEntry} {clk : Nat} (h : w.heap[r]? = some (.map es clk)) : (getObj r).run P w = .ok (.map es clk) w := by simp [getObj, Sem.run, h]
theorem runSet {P : Program} {w : World} {r : Nat} {es : Array MapEntry} {clk : Nat} (o : Obj) (h : w.heap[r]? = some (.map es clk)) : (setObj r o).run P w = .ok () (w.putObj r o) := by simp [setObj, Sem.run, h, World.putObj]
section
variable {κ : Type}
/-- Block m is a map that reads as al. -/
def MapIs (kv : κ → Value) (w : World) (m : Nat) (al : List (κ × Value)) : Prop :=
  ∃ es clk, w.heap[m]? = some (.map es clk) ∧ es.toList.map (fun e => (e.key, e.val)) = al.map (fun p => (kv p.1, p.2))
theorem MapIs.same {kv : κ → Value} {w w' : World} {m : Nat} {al : List (κ × Value)} {S : Nat → Prop} (h : MapIs kv w m al) (hs : Same S w w') (hm : ¬ S m) : MapIs kv w' m al := by
  obtain ⟨es, clk, h1, h2⟩ := h
  exact ⟨es, clk, hs.block h1 hm, h2⟩
theorem MapIs.lt {kv : κ → Value} {w : World} {m : Nat} {al : List (κ × Value)} (h : MapIs kv w m al) : m < w.heap.size := by
  obtain ⟨es, clk, h1, h2⟩ := h
  exact (Array.getElem?_eq_some_iff.1 h1).1
theorem MapIs.drewN {kv : κ → Value} {w : World} {m : Nat} {al : List (κ × Value)} (h : MapIs kv w m al) (n : Nat) : MapIs kv (w.drewN n) m al := h

end
section
variable {κ : Type} [DecidableEq κ]
def aidx : List (κ × Value) → κ → Option Nat
  | [], _ => none
  | p :: r, n => if n = p.1 then some 0 else (aidx r n).map (· + 1)
def aget : List (κ × Value) → κ → Option Value
  | [], _ => none
  | p :: r, n => if n = p.1 then some p.2 else aget r n
def aset : List (κ × Value) → κ → Value → List (κ × Value)
  | [], n, x => [(n, x)]
  | p :: r, n, x => if n = p.1 then (p.1, x) :: r else p :: aset r n x
def adel : List (κ × Value) → κ → List (κ × Value)
  | [], _ => []
  | p :: r, n => if n = p.1 then r else p :: adel r n

theorem aidx_get (al : List (κ × Value)) (n : κ) : ((aidx al n).bind fun j => (al[j]?).map fun p => (j, p.2)) = (aidx al n).bind fun j => (aget al n).map fun v => (j, v) := by
  induction al with
  | nil => rfl
  | cons p r ih =>
    simp only [aidx, aget]
    split
    · rfl
    · cases h : aidx r n with
      | none => simp
      | some j =>
        rw [h] at ih
        simp only [Option.bind_some] at ih
        simp only [Option.map_some, Option.bind_some, List.getElem?_cons_succ]
        cases hr : r[j]? <;> cases hg : aget r n <;> simp_all
theorem aidx_none {al : List (κ × Value)} {n : κ} (h : aidx al n = none) : aget al n = none ∧ ∀ x, aset al n x = al ++ [(n, x)] := by
  induction al with
  | nil => exact ⟨rfl, fun _ => rfl⟩
  | cons p r ih =>
    simp only [aidx] at h
    split at h
    · simp at h
    · rename_i hn
      simp only [Option.map_eq_none_iff] at h
      obtain ⟨h1, h2⟩ := ih h
      exact ⟨by simp [aget, hn, h1], fun x => by simp [aset, hn, h2]⟩
theorem adel_none {al : List (κ × Value)} {n : κ} (h : aidx al n = none) : adel al n = al := by
  induction al with
  | nil => rfl
  | cons p r ih =>
    simp only [aidx] at h
    split at h
    · simp at h
    · rename_i hn
      simp only [Option.map_eq_none_iff] at h
      simp [adel, hn, ih h]
theorem aidx_some {al : List (κ × Value)} {n : κ} {j : Nat} (h : aidx al n = some j) : ∃ v, al[j]? = some (n, v) ∧ aget al n = some v ∧ (∀ x, aset al n x = al.set j (n, x)) ∧ adel al n = al.eraseIdx j := by
  induction al generalizing j with
  | nil => simp [aidx] at h
  | cons p r ih =>
    simp only [aidx] at h
    split at h
    · rename_i hn
      cases h
      subst hn
      exact ⟨p.2, by simp, by simp [aget], fun x => by simp [aset], by simp [adel]⟩
    · rename_i hn
      simp only [Option.map_eq_some_iff] at h
      obtain ⟨i, hi, rfl⟩ := h
      obtain ⟨v, h1, h2, h3, h4⟩ := ih hi
      exact ⟨v, by simpa using h1, by simp [aget, hn, h2], fun x => by simp [aset, hn, h3], by simp [adel, hn, h4]⟩
theorem aget_aset (al : List (κ × Value)) (n q : κ) (x : Value) : aget (aset al n x) q = if q = n then some x else aget al q := by
  induction al with
  | nil => simp [aset, aget]
  | cons p r ih =>
    simp only [aset]
    split
    · rename_i h
      simp only [aget]
      by_cases e : q = p.1
      · simp [e, h]
      · have : ¬ q = n := fun e' => e (e'.trans h)
        simp [e, this]
    · rename_i h
      simp only [aget, ih]
      by_cases e : q = p.1
      · have : ¬ q = n := fun e' => h (e'.symm.trans e)
        simp [e, this]
        intro e'; exact absurd e'.symm h
      · simp [e]
theorem mem_aset {al : List (κ × Value)} {n : κ} {x : Value} {p : κ × Value} (h : p ∈ aset al n x) : p = (n, x) ∨ p ∈ al := by
  induction al with
  | nil => simpa [aset] using h
  | cons q r ih =>
    simp only [aset] at h
    split at h
    · rename_i hn
      rcases List.mem_cons.1 h with rfl | h
      · exact .inl (by rw [hn])
      · exact .inr (List.mem_cons_of_mem _ h)
    · rcases List.mem_cons.1 h with rfl | h
      · exact .inr List.mem_cons_self
      · rcases ih h with h | h
        · exact .inl h
        · exact .inr (List.mem_cons_of_mem _ h)
theorem keys_aset {al : List (κ × Value)} {n : κ} {x : Value} : (aset al n x).map (·.1) = if n ∈ al.map (·.1) then al.map (·.1) else al.map (·.1) ++ [n] := by
  induction al with
  | nil => simp [aset]
  | cons q r ih =>
    simp only [aset]
    split
    · rename_i h; simp [h]
    · rename_i h
      simp only [List.map_cons, ih, List.mem_cons, h, false_or]
      split <;> simp
theorem aget_none {al : List (κ × Value)} {n : κ} : aget al n = none ↔ n ∉ al.map (·.1) := by
  induction al with
  | nil => simp [aget]
  | cons q r ih =>
    simp only [aget, List.map_cons, List.mem_cons, not_or]
    split
    · rename_i h; simp [h]
    · rename_i h; rw [ih]; simp [h]
theorem aget_mem {al : List (κ × Value)} {n : κ} {v : Value} (h : aget al n = some v) : (n, v) ∈ al := by
  induction al with
  | nil => simp [aget] at h
  | cons q r ih =>
    simp only [aget] at h
    split at h
    · rename_i hn; cases h; rw [hn]; exact List.mem_cons_self
    · exact List.mem_cons_of_mem _ (ih h)
theorem aget_of_mem {al : List (κ × Value)} {n : κ} {v : Value} (hnd : (al.map (·.1)).Nodup) (h : (n, v) ∈ al) : aget al n = some v := by
  induction al with
  | nil => simp at h
  | cons q r ih =>
    simp only [List.map_cons, List.nodup_cons] at hnd
    simp only [aget]
    rcases List.mem_cons.1 h with rfl | h
    · simp
    · have : n ∈ r.map (·.1) := List.mem_map.2 ⟨_, h, rfl⟩
      have hn : n ≠ q.1 := fun e => hnd.1 (e ▸ this)
      simp [hn, ih hnd.2 h]
theorem mem_adel {al : List (κ × Value)} {n : κ} {p : κ × Value} (h : p ∈ adel al n) : p ∈ al := by
  induction al with
  | nil => simp [adel] at h
  | cons q r ih =>
    simp only [adel] at h
    split at h
    · exact List.mem_cons_of_mem _ h
    · rcases List.mem_cons.1 h with rfl | h
      · exact List.mem_cons_self
      · exact List.mem_cons_of_mem _ (ih h)
theorem keys_adel_sub (al : List (κ × Value)) (n : κ) : ((adel al n).map (·.1)).Sublist (al.map (·.1)) := by
  induction al with
  | nil => simp [adel]
  | cons q r ih =>
    simp only [adel]
    split
    · simp
    · simpa using ih
theorem aget_adel {al : List (κ × Value)} (hnd : (al.map (·.1)).Nodup) (n q : κ) : aget (adel al n) q = if q = n then none else aget al q := by
  induction al with
  | nil => simp [adel, aget]
  | cons p r ih =>
    simp only [List.map_cons, List.nodup_cons] at hnd
    simp only [adel]
    split
    · rename_i h
      by_cases e : q = n
      · simp only [e, if_true]
        rw [aget_none]; rw [h]; exact hnd.1
      · have : ¬ q = p.1 := fun e' => e (e'.trans h.symm)
        simp [e, aget, this]
    · rename_i h
      simp only [aget, ih hnd.2]
      by_cases e : q = p.1
      · have : ¬ q = n := fun e' => h (e'.symm.trans e)
        simp [e, this]
        intro e'; exact absurd e'.symm h
      · simp [e]

/-- What the walk asks of a key's type. -/
structure KeyLaw (P : Program) (K : TypeId) (kv : κ → Value) : Prop where
  check : ∀ e n W, (Instr.checkKey e 10000 K (kv n)).run P W = .ok () W
  find : ∀ n (l : List MapEntry) (al : List (κ × Value)) W, l.map (fun e => (e.key, e.val)) = al.map (fun p => (kv p.1, p.2)) →
    (Instr.findKey K (kv n) l).run P W = .ok ((aidx al n).bind fun j => (aget al n).map fun v => (j, v)) W
  stays : ∀ n W, (Instr.keyThatStays (kv n) (kv n)).run P W = .ok (kv n) W

variable {P : Program} {T K E : TypeId} {kv : κ → Value}
theorem run_lookup_is (hT : P.underlying T = some (.map K E)) (hK : KeyLaw P K kv) {z : Value} (hz : ∀ W, (zeroValue E).run P W = .ok z W) {w : World} {m : Nat} {al : List (κ × Value)} (hm : MapIs kv w m al) (n : κ) (ok : Bool) :
    (Instr.lookup T (.map (some m)) (kv n) ok).run P w = .ok (if ok then .tuple #[(aget al n).getD z, .bool (aget al n).isSome] else (aget al n).getD z) w := by
  obtain ⟨es, clk, h1, h2⟩ := hm
  have hf := hK.find n es.toList al w h2
  unfold Instr.lookup
  simp only [Sem.run_bind, run_underlying hT, runGet h1, Result.andThen, Sem.run_pure, hK.check, hf]
  cases hi : aidx al n with
  | none =>
    obtain ⟨h3, _⟩ := aidx_none hi
    simp only [Option.bind_none, Sem.run_bind, hz, Result.andThen, Sem.run_pure, h3]
    cases ok <;> rfl
  | some j =>
    obtain ⟨v, _, h3, _⟩ := aidx_some hi
    simp only [Option.bind_some, h3, Option.map_some, Sem.run_pure, Result.andThen]
    cases ok <;> rfl

theorem run_mapUpdate_is (hT : P.underlying T = some (.map K E)) (hK : KeyLaw P K kv) {w : World} {m : Nat} {al : List (κ × Value)} (hm : MapIs kv w m al) (n : κ) (v : Value) :
    ∃ w', (Instr.mapUpdate T (.map (some m)) (kv n) v).run P w = .ok () w' ∧ Same (· = m) w w' ∧ w'.heap.size = w.heap.size ∧ MapIs kv w' m (aset al n v) := by
  obtain ⟨es, clk, h1, h2⟩ := hm
  have hf := hK.find n es.toList al w h2
  have hlt := (Array.getElem?_eq_some_iff.1 h1).1
  have hlen : es.size = al.length := by have := congrArg List.length h2; simpa using this
  unfold Instr.mapUpdate
  simp only [Sem.run_bind, run_underlying hT, runGet h1, Result.andThen, hK.check, hf]
  cases hi : aidx al n with
  | none =>
    obtain ⟨_, h3⟩ := aidx_none hi
    simp only [Option.bind_none, runSet _ h1]
    refine ⟨_, rfl, same_putObj _ h1, by simp, _, _, World.putObj_heap_same hlt, ?_⟩
    rw [h3]
    simp [h2]
  | some j =>
    obtain ⟨u, h4, h3, h5, _⟩ := aidx_some hi
    simp only [Option.bind_some, h3, Option.map_some]
    have hj : j < es.size := by rw [hlen]; exact (List.getElem?_eq_some_iff.1 h4).1
    have hkey : (es[j]?).map (·.key) = some (kv n) := by
      have h6 : (es.toList.map (fun e => (e.key, e.val)))[j]? = some (kv n, u) := by rw [h2]; simp [h4]
      rw [List.getElem?_map, Array.getElem?_toList] at h6
      cases hes : es[j]? with
      | none => simp [hes] at h6
      | some e => simp [hes] at h6; simp [h6.1]
    simp only [hkey, Option.getD_some, hK.stays, Sem.run_bind, Result.andThen, runSet _ h1]
    refine ⟨_, rfl, same_putObj _ h1, by simp, _, _, World.putObj_heap_same hlt, ?_⟩
    rw [h5]
    apply List.ext_getElem?
    intro i
    have h7 := congrArg (fun l => l[i]?) h2
    simp only [List.getElem?_map, Array.getElem?_toList, Array.getElem?_modify, List.getElem?_set] at h7 ⊢
    by_cases e : j = i
    · subst e
      have hj' : j < al.length := by omega
      simp [hj, hj']
    · simp only [e, if_false]
      simpa using h7

theorem run_delete_is (hT : P.underlying T = some (.map K E)) (hK : KeyLaw P K kv) {w : World} {m : Nat} {al : List (κ × Value)} (hm : MapIs kv w m al) (n : κ) (T2 T3 : TypeId) :
    ∃ w', (Builtin.delete_ #[T, T2] T3 #[.map (some m), kv n]).run P w = .ok (.tuple #[]) w' ∧ Same (· = m) w w' ∧ w'.heap.size = w.heap.size ∧ MapIs kv w' m (adel al n) := by
  obtain ⟨es, clk, h1, h2⟩ := hm
  have hf := hK.find n es.toList al w h2
  have hlt := (Array.getElem?_eq_some_iff.1 h1).1
  have hlen : es.size = al.length := by have := congrArg List.length h2; simpa using this
  unfold Builtin.delete_
  simp only [List.getElem?_toArray, List.getElem?_cons_zero, List.getElem?_cons_succ, Sem.run_bind, run_underlying hT, runGet h1, Result.andThen, hK.check, hf]
  cases hi : aidx al n with
  | none =>
    simp only [Option.bind_none, Sem.run_bind, runSet _ h1, Result.andThen, Sem.run_pure]
    refine ⟨_, rfl, same_putObj _ h1, by simp, _, _, World.putObj_heap_same hlt, ?_⟩
    rw [adel_none hi, h2]
  | some j =>
    obtain ⟨u, h4, h3, _, h5⟩ := aidx_some hi
    simp only [Option.bind_some, h3, Option.map_some, Sem.run_bind, runSet _ h1, Result.andThen, Sem.run_pure]
    refine ⟨_, rfl, same_putObj _ h1, by simp, _, _, World.putObj_heap_same hlt, ?_⟩
    have hj : j < es.size := by rw [hlen]; exact (List.getElem?_eq_some_iff.1 h4).1
    rw [h5]
    have hmap : ∀ {α β : Type} (f : α → β) (l : List α) (i : Nat), (l.eraseIdx i).map f = (l.map f).eraseIdx i := by
      intro α β f l
      induction l with
      | nil => intro i; simp
      | cons x l ih => intro i; cases i <;> simp [ih]
    rw [hmap, ← h2, ← hmap]
    simp [Array.eraseIdxIfInBounds, hj]

theorem wpListIn_mapUpdate_is {F : Fence} {nF : Nat} {w : World} {ops : Array Oper} {rest : List Oper} {o : Oper} {a : Act} {Q : Exit → Act → World → Prop}
    (hg : o.guard = none) (m x v : Operand) (hop : o.op = Op.mapUpdate T m x v) (hT : P.underlying T = some (.map K E)) (hK : KeyLaw P K kv) {r : Nat} {al : List (κ × Value)} (hm : MapIs kv w r al)
    (e1 : a.eval m = .map (some r)) (n : κ) (e2 : a.eval x = kv n) {vv : Value} (e3 : a.eval v = vv)
    (h : ∀ w1, Same (· = r) w w1 → w1.heap.size = w.heap.size → MapIs kv w1 r (aset al n vv) → wpListIn F nF P ops Q rest (a.put o.dst undef) w1) :
    wpListIn F nF P ops Q (o :: rest) a w := by
  refine wpListIn_plain hg fun K' hK' => ?_
  obtain ⟨w', hrun, r1, r2, r3⟩ := run_mapUpdate_is hT hK hm n vv
  unfold Oper.wpIn
  refine ⟨by simp [Oper.about, hop], ?_⟩
  rw [Oper.semAt_plain F _ _ (by rw [hop]; intro c hc'; cases hc')]
  simp [execOp, hop, e1, e2, e3, hrun, Result.andThen]
  exact hK' _ _ (h w' r1 r2 r3)
theorem wpList_mapUpdate_is {w : World} {ops : Array Oper} {rest : List Oper} {o : Oper} {a : Act} {Q : Exit → Act → World → Prop}
    (hg : o.guard = none) (m x v : Operand) (hop : o.op = Op.mapUpdate T m x v) (hT : P.underlying T = some (.map K E)) (hK : KeyLaw P K kv) {r : Nat} {al : List (κ × Value)} (hm : MapIs kv w r al)
    (e1 : a.eval m = .map (some r)) (n : κ) (e2 : a.eval x = kv n) {vv : Value} (e3 : a.eval v = vv)
    (h : ∀ w1, Same (· = r) w w1 → w1.heap.size = w.heap.size → MapIs kv w1 r (aset al n vv) → wpList P ops Q rest (a.put o.dst undef) w1) :
    wpList P ops Q (o :: rest) a w := by
  refine wpList_plain hg fun K' hK' => ?_
  obtain ⟨w', hrun, r1, r2, r3⟩ := run_mapUpdate_is hT hK hm n vv
  unfold Oper.wp
  simp [execOp, hop, e1, e2, e3, hrun, Result.andThen]
  exact hK' _ _ (h w' r1 r2 r3)
theorem wpListIn_delete_is {F : Fence} {nF : Nat} {w : World} {ops : Array Oper} {rest : List Oper} {o : Oper} {a : Act} {Q : Exit → Act → World → Prop} {T2 : TypeId}
    (hg : o.guard = none) (m x : Operand) (hop : o.op = Op.call { callee := Callee.builtin Builtin.delete, args := #[m, x], argTypes := #[T, T2] }) (hT : P.underlying T = some (.map K E)) (hK : KeyLaw P K kv) {r : Nat} {al : List (κ × Value)} (hm : MapIs kv w r al)
    (e1 : a.eval m = .map (some r)) (n : κ) (e2 : a.eval x = kv n)
    (h : ∀ w1, Same (· = r) w w1 → w1.heap.size = w.heap.size → MapIs kv w1 r (adel al n) → wpListIn F nF P ops Q rest (a.put o.dst (.tuple #[])) w1) :
    wpListIn F nF P ops Q (o :: rest) a w := by
  refine wpListIn_plain hg fun K' hK' => ?_
  obtain ⟨w', hrun, r1, r2, r3⟩ := run_delete_is hT hK hm n T2 o.type
  unfold Oper.wpIn
  refine ⟨by simp [Oper.about, hop, resolve, Target.leads, Sem.run_pure], ?_⟩
  rw [Oper.semAt_plain F _ _ (by rw [hop]; intro c hc'; cases hc')]
  simp [execOp, hop, resolve, invoke, builtin, e1, e2, hrun, Result.andThen]
  exact hK' _ _ (h w' r1 r2 r3)
theorem wpList_delete_is {w : World} {ops : Array Oper} {rest : List Oper} {o : Oper} {a : Act} {Q : Exit → Act → World → Prop} {T2 : TypeId}
    (hg : o.guard = none) (m x : Operand) (hop : o.op = Op.call { callee := Callee.builtin Builtin.delete, args := #[m, x], argTypes := #[T, T2] }) (hT : P.underlying T = some (.map K E)) (hK : KeyLaw P K kv) {r : Nat} {al : List (κ × Value)} (hm : MapIs kv w r al)
    (e1 : a.eval m = .map (some r)) (n : κ) (e2 : a.eval x = kv n)
    (h : ∀ w1, Same (· = r) w w1 → w1.heap.size = w.heap.size → MapIs kv w1 r (adel al n) → wpList P ops Q rest (a.put o.dst (.tuple #[])) w1) :
    wpList P ops Q (o :: rest) a w := by
  refine wpList_plain hg fun K' hK' => ?_
  obtain ⟨w', hrun, r1, r2, r3⟩ := run_delete_is hT hK hm n T2 o.type
  unfold Oper.wp
  simp [execOp, hop, resolve, invoke, builtin, e1, e2, hrun, Result.andThen]
  exact hK' _ _ (h w' r1 r2 r3)
end

theorem findNow_int {al : List (Int × Value)} {l : List MapEntry} (n : Int) (i : Nat) (h : l.map (fun e => (e.key, e.val)) = al.map (fun p => (Value.int .i64 p.1, p.2))) :
    Instr.findNow (.int .i64) (.int .i64 n) l i = some ((aidx al n).bind fun j => (aget al n).map fun v => (i + j, v)) := by
  induction l generalizing al i with
  | nil =>
    cases al with
    | nil => rfl
    | cons p r => simp at h
  | cons e l ih =>
    cases al with
    | nil => simp at h
    | cons p r =>
      simp only [List.map_cons, List.cons.injEq, Prod.mk.injEq] at h
      obtain ⟨⟨hk, hv⟩, hr⟩ := h
      simp only [Instr.findNow, hk, Instr.sameNow, if_true, aidx, aget]
      by_cases e1 : n = p.1
      · subst e1; simp [hv]
      · have : (n == p.1) = false := by simpa using e1
        simp only [this, e1, if_false, ih (i + 1) hr]
        cases aidx r n <;> simp
        cases aget r n <;> simp
        omega
theorem key_int {P : Program} {K : TypeId} (hK : P.underlying K = some (.int .i64)) : KeyLaw P K (fun n : Int => Value.int .i64 n) where
  check e n W := by
    unfold Instr.checkKey
    simp only [Sem.run_bind, run_underlying hK, Result.andThen, Sem.run_pure]
  find n l al W h := by
    unfold Instr.findKey
    simp only [Sem.run_bind, run_underlying hK, Result.andThen, findNow_int n 0 h, Nat.zero_add, Sem.run_pure]
  stays n W := by
    unfold Instr.keyThatStays
    simp [Instr.sameBits]

end Go.Proofs.Ytcllofffbmbmlaa
