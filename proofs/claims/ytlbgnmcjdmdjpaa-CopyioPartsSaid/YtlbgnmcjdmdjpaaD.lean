import Derived.Test.YtlbgnmcjdmdjpaaC
import Derived.Sort.CutIn
namespace Go.Proofs.Ytlbgnmcjdmdjpaa
open Go.RowKit Go.Shelf
attribute [local go_sem] Oper.semAt_some

/-- A frame allocated. -/
def Mm.alloc (M : Mm) (k : Nat) : Mm := { M with R := fun i => if i = k then 1 else M.R i, B := fun i j => if i = k then 0 else M.B i j }

theorem wpIn_world {F : Fence} {n : Nat} {P : Program} {c : Code} {Q : Exit → Act → World → Prop} {a : Act} {w : World} (h : ∀ w', w' = w → c.wpIn F n P Q a w') : c.wpIn F n P Q a w := h w rfl
def zer : Array Value := (List.replicate 64 (.int .u8 0)).toArray
theorem zeroV (w : World) : (zeroValue 133).run Try.prog w = .ok (.agg zer) w := by
  have h : (Try.prog.info? 133).map (·.zero) = some (some (.agg zer)) := by kernel_rfl
  cases hq : Try.prog.info? 133 with
  | none => rw [hq] at h; cases h
  | some i =>
    rw [hq] at h
    simp only [Option.map_some, Option.some.injEq] at h
    simp [zeroValue, typeInfo, hq, h]
theorem exec_alloc (w : World) (ρ : Operand → Value) (o : Oper) (hop : o.op = .alloc 133) : (execOp ρ o).run Try.prog w = .ok (.value (.pointer (some ⟨w.heap.size, 0, none⟩))) (w.alloc (.cells zer 133)) := by
  unfold execOp
  simp only [hop]
  simp [go_sem, zeroV]
  exact congrArg (fun c => w.alloc (.cells c 133)) (by simp only [zer, List.replicate_succ, List.replicate_zero])
theorem exec_build (w : World) (ρ : Operand → Value) (o : Oper) (hop : o.op = .build 133 #[]) : (execOp ρ o).run Try.prog w = .ok (.value (.agg zer)) w := by
  have h : Try.prog.built 133 [] = some zer := by kernel_rfl
  have := run_build (P := Try.prog) w 133 #[] zer h
  unfold execOp
  simp only [hop]
  simp [this, Sem.run_bind, Result.andThen]
theorem wpListIn_val {F : Fence} {n : Nat} {P : Program} {w w' : World} {ops : Array Oper} {rest : List Oper} {o : Oper} {a : Act} {Q : Exit → Act → World → Prop} {v : Value} (hg : o.guard = none) (hab : o.about P w a.eval = none)
    (hnd : ∀ c, o.op ≠ .defer c) (hrun : (execOp a.eval o).run P w = .ok (.value v) w') (h : wpListIn F n P ops Q rest (a.put o.dst v) w') : wpListIn F n P ops Q (o :: rest) a w := by
  refine wpListIn_plain hg fun K hK => ?_
  unfold Oper.wpIn
  refine ⟨fun f hf => (by rw [hab] at hf; cases hf), ?_⟩
  rw [Oper.semAt_plain F _ _ (fun c hc => hnd c hc), hrun]
  exact hK _ _ h
theorem wpListIn_skp {F : Fence} {n : Nat} {P : Program} {w w' : World} {ops : Array Oper} {rest : List Oper} {o : Oper} {a : Act} {Q : Exit → Act → World → Prop} (hg : o.guard = none) (hab : o.about P w a.eval = none)
    (hnd : ∀ c, o.op ≠ .defer c) (hrun : (execOp a.eval o).run P w = .ok .skip w') (h : wpListIn F n P ops Q rest (a.put o.dst undef) w') : wpListIn F n P ops Q (o :: rest) a w := by
  refine wpListIn_plain hg fun K hK => ?_
  unfold Oper.wpIn
  refine ⟨fun f hf => (by rw [hab] at hf; cases hf), ?_⟩
  rw [Oper.semAt_plain F _ _ (fun c hc => hnd c hc), hrun]
  exact hK _ _ h
theorem exec_store (w w' : World) (ρ : Operand → Value) (o : Oper) (t : TypeId) (x y : Operand) (p v : Value) (hop : o.op = .store t x y) (hx : ρ x = p) (hy : ρ y = v) (h : (Instr.storeAt t p v).run Try.prog w = .ok () w') : (execOp ρ o).run Try.prog w = .ok .skip w' := by
  unfold execOp
  simp only [hop, hx, hy]
  simp [h, Sem.run_bind, Result.andThen]
theorem zer_get (j : Nat) (hj : j < 64) : zer[j]? = some (.int .u8 0) := by
  unfold zer; rw [List.getElem?_toArray, List.getElem?_replicate, if_pos hj]
theorem zer_cell (w : World) (j : Nat) (hj : j < 64) : (w.alloc (.cells zer 133)).cell? ⟨w.heap.size, j, none⟩ = some (.int .u8 0) := by
  rw [World.cell?_alloc_new]; exact zer_get j hj
theorem zer_there (w : World) : (w.alloc (.cells zer 133)).there w.heap.size 0 zer.size := by
  intro j hj
  have hj' : j < 64 := by simpa [zer] using hj
  rw [Nat.zero_add]
  exact ⟨by rw [zer_cell w j hj']; rfl, by simp⟩
theorem zer_store (w : World) : (Instr.storeAt 133 (.pointer (some ⟨w.heap.size, 0, none⟩)) (.agg zer)).run Try.prog (w.alloc (.cells zer 133)) = .ok () ((w.alloc (.cells zer 133)).setCells w.heap.size 0 zer.toList) :=
  run_storeAt_mid _ _ _ _ _ (zer_there w) (by kernel_rfl) (by kernel_rfl)
theorem zer_cell2 (w : World) (j : Nat) (hj : j < 64) : ((w.alloc (.cells zer 133)).setCells w.heap.size 0 zer.toList).cell? ⟨w.heap.size, j, none⟩ = some (.int .u8 0) := by
  have hl : zer.toList.length = 64 := by simp [zer]
  have := World.cell?_setCells_in w.heap.size zer.toList 0 (w.alloc (.cells zer 133)) (fun q hq => by rw [Nat.zero_add, zer_cell w q (by omega)]; rfl) j (by omega)
  rw [Nat.zero_add] at this
  rw [this]
  have h2 := zer_get j hj
  rw [← Array.getElem?_toList, List.getElem?_eq_getElem (by omega)] at h2
  exact h2
theorem same_setCells (b : Nat) : ∀ (vs : List Value) (o : Nat) (W : World), Same (· = b) W (W.setCells b o vs) := by
  intro vs
  induction vs with
  | nil => intro o W; exact Same.refl _ _
  | cons v r ih => intro o W; exact ((Same.refl (· = b) W).setCell (a := ⟨b, o, none⟩) v (.inr rfl)).trans (ih (o + 1) _)
open Extern.Stop (cell) in
theorem load133 (w : World) (b o : Nat) (l : List UInt8) (hl : l.length = 64) (hc : ∀ j (hj : j < 64), w.cell? ⟨b, o + j, none⟩ = some (cell (l.getD j 0))) :
    (Instr.loadAt 133 (.pointer (some ⟨b, o, none⟩))).run Try.prog w = .ok (.agg (l.map cell).toArray) w := by
  refine run_loadAt_mid w b o 133 (l.map cell) (.array 64 5) (fun j v hv => ?_) Try.underlying133 rfl (by rw [List.length_map, hl]; kernel_rfl)
  have hj : j < 64 := by
    have := (List.getElem?_eq_some_iff.1 hv).1
    simpa [hl] using this
  rw [hc j hj]
  rw [List.getElem?_map, List.getElem?_eq_getElem (by omega)] at hv
  simp only [Option.map_some, Option.some.injEq] at hv
  rw [← hv, List.getD_eq_getElem?_getD, List.getElem?_eq_getElem (by omega)]
  rfl
open Extern.Stop (cell) in
theorem neq133 (w : World) (xs ys : List UInt8) (hx : xs.length = 64) (hy : ys.length = 64) :
    (Op.equalIn 10000 133 (.agg (xs.map cell).toArray) (.agg (ys.map cell).toArray)).run Try.prog w = .ok (xs == ys) w :=
  run_equalIn_bytes (P := Try.prog) w 9998 133 5 64 Try.underlying133 Try.underlying5 (fun w => by
      have : (Try.prog.info? 5).map (·.size) = some 1 := by kernel_rfl
      simp [go_sem, this]) xs ys hx hy
theorem MemAt.congr {w : World} {f fb : Nat} {M M' : Mm} (h : MemAt w f fb M) (hn : M'.n = M.n) (hR : ∀ i, i < M.n → M'.R i = M.R i) (hB : ∀ i, i < M.n → ∀ k, k < 64 → M'.B i k = M.B i k) : MemAt w f fb M' := by
  refine ⟨by rw [hn]; exact h.f0, fun i hi => ?_, fun i hi k hk => ?_, h.fz, h.sh, h.sf, fun i hi => ?_, h.ne, by rw [hn]; exact h.n1, by rw [hn]; exact h.n2⟩
  · rw [hn] at hi; rw [hR i hi]; exact h.rc i hi
  · rw [hn] at hi; rw [hB i hi k hk]; exact h.bc i hi k hk
  · rw [hn] at hi; rw [hR i hi]; exact h.rR i hi
theorem exec_load (w : World) (ρ : Operand → Value) (o : Oper) (t : TypeId) (x : Operand) (p v : Value) (hop : o.op = .load t x) (hx : ρ x = p) (h : (Instr.loadAt t p).run Try.prog w = .ok v w) : (execOp ρ o).run Try.prog w = .ok (.value v) w := by
  unfold execOp
  simp only [hop, hx]
  simp [h, Sem.run_bind, Result.andThen]
theorem exec_move (w : World) (ρ : Operand → Value) (o : Oper) (x : Operand) (v : Value) (hop : o.op = .move x) (hx : ρ x = v) : (execOp ρ o).run Try.prog w = .ok (.value v) w := by
  unfold execOp; simp only [hop, hx]; simp [go_sem]
theorem exec_nil (w : World) (ρ : Operand → Value) (o : Oper) (x : Operand) (p : Addr) (hop : o.op = .nilCheck x) (hx : ρ x = .pointer (some p)) : (execOp ρ o).run Try.prog w = .ok (.value (.pointer (some p))) w := by
  unfold execOp; simp only [hop, hx]; simp [go_sem]
theorem exec_bytes (w : World) (ρ : Operand → Value) (o : Oper) (x : Operand) (b q : Nat) (hop : o.op = .fieldAddr 135 x 1) (hx : ρ x = .pointer (some ⟨b, q, none⟩)) : (execOp ρ o).run Try.prog w = .ok (.value (.pointer (some ⟨b, q + 1, none⟩))) w := by
  unfold execOp; simp only [hop, hx]; simp [go_sem]
theorem MemAt.zeroed {w : World} {f fb : Nat} {M : Mm} {i : Nat} (h : MemAt w f fb (M.setR i 1)) (hi : i < M.n) (Z : Array Value) (hZ : Z = ((List.replicate 64 (0 : UInt8)).map Extern.Stop.cell).toArray) :
    (Instr.storeAt 133 (.pointer (some ⟨fb, i * 65 + 1, none⟩)) (.agg Z)).run Try.prog w = .ok () (w.setCells fb (i * 65 + 1) Z.toList) ∧ MemAt (w.setCells fb (i * 65 + 1) Z.toList) f fb (M.alloc i) ∧ Same (· = fb) w (w.setCells fb (i * 65 + 1) Z.toList) := by
  have hsz : Z.size = 64 := by rw [hZ]; simp
  have hl : ∀ j (hj : j < 64), Z[j]? = some (.int .u8 0) := by
    intro j hj
    rw [hZ, List.getElem?_toArray, List.getElem?_map, List.getElem?_replicate, if_pos hj]; rfl
  have h1 := run_storeAt_mid (P := Try.prog) w fb (i * 65 + 1) 133 Z (fun j hj => by
    rw [hsz] at hj
    exact ⟨by rw [h.bc i hi j hj]; rfl, h.fz _⟩) (by rw [hsz]; kernel_rfl) (by
    rw [Array.all_eq_true_iff_forall_mem]
    intro v hv
    obtain ⟨j, hj, rfl⟩ := Array.mem_iff_getElem.1 hv
    have := hl j (by omega)
    rw [Array.getElem?_eq_getElem hj] at this
    simp only [Option.some.injEq] at this
    rw [this]; rfl)
  obtain ⟨h2, h3⟩ := h.wr (k := i) (from_ := 0) hi ⟨(List.replicate 64 (0 : UInt8)).toArray⟩ (by simp [ByteArray.size])
  have e : (List.map (fun x : UInt8 => Value.int .u8 (x.toNat : Int)) (⟨(List.replicate 64 (0 : UInt8)).toArray⟩ : ByteArray).data.toList) = Z.toList := by rw [hZ]; rfl
  rw [e, Nat.add_zero] at h2 h3
  refine ⟨h1, h2.congr rfl (fun _ _ => rfl) (fun j hj k hk => ?_), h3⟩
  simp only [Mm.alloc, Mm.wr, Mm.setR]
  by_cases hji : j = i
  · rw [if_pos hji, if_pos ⟨hji, Nat.zero_le _, by simpa [ByteArray.size] using hk⟩]
    show (0 : UInt8) = ((List.replicate 64 (0 : UInt8)).toArray.toList[k - 0]?).getD 0
    rw [List.toList_toArray, Nat.sub_zero, List.getElem?_replicate, if_pos hk]; rfl
  · rw [if_neg hji, if_neg (fun h => hji h.1)]
theorem cell_ne {w : World} {a : Addr} {v u : Value} {b : Nat} {o : Nat} (h : w.cell? ⟨b, o, none⟩ = some u) (hne : a.block ≠ b ∨ a.off ≠ o) : (w.setCell a v).cell? ⟨b, o, none⟩ = some u := by
  rw [World.cell?_setCell_other]
  · exact h
  · intro h1; subst h1; simp at hne
theorem still_load {P : Program} {ops : Array Oper} {w : World} {Q : Act → Prop} {a : Act} {o : Oper} {rest : List Oper} (hg : o.guard = none) (ty : TypeId) (x : Operand) (hop : o.op = .load ty x)
    (p v : Value) (hx : a.eval x = p) (hrun : (Instr.loadAt ty p).run P w = .ok v w) (h : wpStill P ops w Q rest (a.put o.dst v)) : wpStill P ops w Q (o :: rest) a := by
  have hw : Region.wanted o (yielded ops a.tmps) = true := by simp [Region.wanted, hg]
  unfold wpStill
  rw [if_pos hw]
  unfold Oper.still execOp
  simp only [hop, hx, Sem.run_bind, hrun, Result.andThen_ok, Sem.run_pure]
  rw [Oper.stillUpon_value]
  exact h

theorem results_cells2 {fn : Func} {p q : Tmp} {t u : TypeId} (h : fn.results = #[.cell p t, .cell q u]) {tmps : Array Value} {P : Program} {w : World} {a b : Addr} {x y : Value} (hp : tmps.getD p undef = .pointer (some a)) (hq : tmps.getD q undef = .pointer (some b))
    (h1 : (loadVar t a).run P w = .ok x w) (h2 : (loadVar u b).run P w = .ok y w) : (results fn tmps).run P w = .ok (.tuple #[x, y]) w := by
  have e1 : (asAddr (tmps.getD p undef)).run P w = .ok a w := by rw [hp]; simp [asAddr]
  have e2 : (asAddr (tmps.getD q undef)).run P w = .ok b w := by rw [hq]; simp [asAddr]
  rw [Array.getD_eq_getD_getElem?] at e1 e2
  simp only [results, h]
  simp [Sem.run_bind, Result.andThen, e1, e2, h1, h2]
theorem loadVar3 (w : World) (a : Addr) (v : Value) (h : w.cell? a = some v) : (loadVar 3 a).run Try.prog w = .ok v w := by simp [go_sem, h]
theorem loadVar25 (w : World) (a : Addr) (v : Value) (h : w.cell? a = some v) : (loadVar 25 a).run Try.prog w = .ok v w := by simp [go_sem, h]

set_option maxHeartbeats 1600000 in
set_option maxRecDepth 8192 in
theorem alloc_any {w : World} {f fb : Nat} {M : Mm} (h : MemAt w f fb M) :
    Calls Try.prog 50 #[.pointer (some ⟨f, 0, none⟩)] w fun e w' =>
      ((∀ i, i < M.n → 0 < M.R i) ∧ e = .returned (.tuple #[.int .i64 0, .int .i64 11]) ∧ MemAt w' f fb M ∧ Same (fun _ => False) w w') ∨
      (∃ k, k < M.n ∧ M.R k ≤ 0 ∧ (∀ i, i < k → 0 < M.R i) ∧ e = .returned (.tuple #[.int .i64 k, .int .i64 0]) ∧ MemAt w' f fb (M.alloc k) ∧ Same (· = fb) w w') := by
  have hn2 := h.n2
  have hlt := h.lt
  have hne := h.ne
  have H := Lib.hid h
  clear h
  refine (callsIn_wide (n := 0)).1 ?_
  refine callsIn_of_wp_marks Try.func50 rfl trivial ?_ rfl
  simp only [Try.ntmps50, List.size_toArray, List.length_cons, List.length_nil, Nat.reduceAdd, Nat.reduceSub, Array.replicate_succ, Array.replicate_zero, List.push_toArray, List.append_toArray, List.nil_append, List.cons_append]
  gi_wp2_with (gi_at_call 60; refine CallsIn.mono (callsIn_wide.2 (unused_any _ _)) ?_; rintro e w' ⟨rfl, rfl⟩)
  refine range_wide (gf := 102) (lb := #[.pointer (some ⟨w.heap.size + 1 + 1 + 1, 0, none⟩)]) rfl (enters_of Try.func102 (by kernel_rfl) rfl) ?_
  intro rec D L W1 hD hL hrule hs1 hl1 hd1 _
  simp only [World.size_alloc, World.size_setCell] at hD
  have hc0 : W1.cell? ⟨w.heap.size, 0, none⟩ = some (.pointer (some ⟨f, 0, none⟩)) := hs1.cell (by simp [go_sem]) (by simp)
  have hc1 : W1.cell? ⟨w.heap.size + 1, 0, none⟩ = some (.int .i64 0) := hs1.cell (by simp [go_sem]) (by simp)
  have hc2 : W1.cell? ⟨w.heap.size + 1 + 1, 0, none⟩ = some (.int .i64 0) := hs1.cell (by simp [go_sem]) (by simp)
  have hb0 : W1.cell? ⟨w.heap.size + 1 + 1 + 1, 0, none⟩ = some (.pointer (some ⟨f, 0, none⟩)) := hs1.cell (by simp [go_sem]) (by simp)
  have hf1 : W1.frozen? ⟨w.heap.size + 1, 0, none⟩ = false := (hs1.frozen (by simp <;> omega) (by simp)).trans (by simp [go_sem])
  have hf2 : W1.frozen? ⟨w.heap.size + 1 + 1, 0, none⟩ = false := (hs1.frozen (by simp <;> omega) (by simp)).trans (by simp [go_sem])
  have hs2 : Same (fun k => w.heap.size ≤ k) w W1 := (((((Same.refl _ w).alloc _).alloc _).alloc _).alloc _).trans (hs1.mono (by simp))
  refine Calls.mono (unused1 L (w.heap.size + 1 + 1 + 1) f fb M.n M.R (fun i W => (∀ j, j < i → 0 < M.R j) ∧ W.cell? ⟨w.heap.size, 0, none⟩ = some (.pointer (some ⟨f, 0, none⟩)) ∧
      (W.cell? ⟨w.heap.size + 1, 0, none⟩ = some (.int .i64 0) ∧ W.cell? ⟨w.heap.size + 1 + 1, 0, none⟩ = some (.int .i64 0) ∧ W.frozen? ⟨w.heap.size + 1, 0, none⟩ = false ∧ W.frozen? ⟨w.heap.size + 1 + 1, 0, none⟩ = false) ∧
      W.cell? ⟨w.heap.size + 1 + 1 + 1, 0, none⟩ = some (.pointer (some ⟨f, 0, none⟩)) ∧ Same (fun k => w.heap.size ≤ k) w W ∧ W.heap[L]? = some (rec .ready none) ∧ W.heap[D]? = some (.deferred (some [])))
    (fun W => ∃ k, k < M.n ∧ M.R k ≤ 0 ∧ (∀ i, i < k → 0 < M.R i) ∧ W.cell? ⟨w.heap.size + 1, 0, none⟩ = some (.int .i64 k) ∧ W.cell? ⟨w.heap.size + 1 + 1, 0, none⟩ = some (.int .i64 0) ∧
      MemAt W f fb (M.alloc k) ∧ Same (fun b => w.heap.size ≤ b ∨ b = fb) w W ∧ W.heap[L]? = some (rec .done (some .ret)) ∧ W.heap[D]? = some (.deferred (some [])))
    ⟨H.out.n1, hn2⟩ ?_ ?_ ?_ W1 ⟨by omega, hc0, ⟨hc1, hc2, hf1, hf2⟩, hb0, hs2, hl1, hd1⟩) ?_
  · rintro i W hi ⟨h1, h2, h3, h4, h5, h6, h7⟩
    exact ⟨h5.cell (H.out.rc i hi) (by simp; omega), h5.cell H.out.f0 (by simp; omega), h4⟩
  · rintro i W hi ⟨h1, h2, h3, h4, h5, h6, h7⟩ hz
    exact ⟨fun j hj => by
      by_cases e : j = i
      · rw [e]; exact hz
      · exact h1 j (by omega), h2, h3, h4, h5, h6, h7⟩
  · rintro i W hi ⟨h1, h2, ⟨h31, h32, h33, h34⟩, h4, h5, h6, h7⟩ hz
    have hii : (i : Int) < M.n := by omega
    refine hrule W _ _ h6 rfl ?_
    gi_wp2
    intro W2 hs2 hz2 hl2
    have b0 := hs2.cell h2 (by simp; omega)
    have b1 := hs2.cell h31 (by simp; omega)
    have b2 := hs2.cell h32 (by simp; omega)
    have b3 := hs2.unfrozen h31 h33 (by simp; omega)
    have b4 := hs2.unfrozen h32 h34 (by simp; omega)
    have hd2 := hs2.block h7 (by omega)
    have hs3 := h5.trans (hs2.mono (fun k _ e => by omega))
    have hM2 := H.out.same hs3 (by omega) (by omega)
    have c0 := hM2.f0
    have c1 := hM2.rc i hi
    have z1 := hM2.fz (i * 65)
    have lb2 := hM2.lt.2
    gi_upto_region 7 with (fail)
    refine wpIn_region_lit ?_
    refine wpListIn_val rfl rfl (by intro c hc; cases hc) (exec_build _ _ _ rfl) ?_
    refine wpListIn_val rfl rfl (by intro c hc; cases hc) (exec_alloc _ _ _ rfl) ?_
    refine wpListIn_skp rfl rfl (by intro c hc; cases hc) (exec_store _ _ _ _ 133 (.tmp 6) (.tmp 22) _ _ rfl (by rfl) (by rfl) (zer_store _)) ?_
    refine wpListIn_nil ?_
    gi_upto_region 8 with (fail)
    refine wpIn_world fun W3 hW3 => ?_
    have hl2f := hM2.lt.1
    have zc := zer_cell2 (W2.setCell ⟨fb, i * 65, none⟩ (.int .i64 1))
    have zm := ((hM2.setR hi (v := 1) (by omega)).same0 (same_alloc (.cells zer 133))).same (same_setCells (W2.setCell ⟨fb, i * 65, none⟩ (.int .i64 1)).heap.size zer.toList 0 _) (by simp; omega) (by simp; omega)
    have zs : Same (· = fb) W2 (((W2.setCell ⟨fb, i * 65, none⟩ (.int .i64 1)).alloc (.cells zer 133)).setCells (W2.setCell ⟨fb, i * 65, none⟩ (.int .i64 1)).heap.size 0 zer.toList) :=
      (((Same.refl (· = fb) W2).setCell (a := ⟨fb, i * 65, none⟩) (.int .i64 1) (.inr rfl)).alloc (.cells zer 133)).trans' (same_setCells _ _ _ _) (by intro k hk h; simp at hk; omega)
    simp only [World.size_setCell, hz2] at zc zm zs hW3
    rw [← hW3] at zc zm zs
    have hz3 := zc
    have hM3 := zm
    have hs4 := zs
    clear zc zm zs
    obtain ⟨xs, hxs⟩ : ∃ xs, xs = (List.range 64).map fun j => M.B i j := ⟨_, rfl⟩
    obtain ⟨zs, hzs⟩ : ∃ zs, zs = List.replicate 64 (0 : UInt8) := ⟨_, rfl⟩
    obtain ⟨A, hA⟩ : ∃ A, A = (xs.map Extern.Stop.cell).toArray := ⟨_, rfl⟩
    obtain ⟨Z, hZ⟩ : ∃ Z, Z = (zs.map Extern.Stop.cell).toArray := ⟨_, rfl⟩
    have ld1 := load133 W3.drew fb (i * 65 + 1) xs (by simp [hxs]) (fun j hj => by
      have := hM3.bc i hi j hj
      simp [hxs, Extern.Stop.cell, hj, List.getD]
      exact this)
    have ld2 := load133 W3.drew W.heap.size 0 zs (by simp [hzs]) (fun j hj => by
      rw [hzs, List.getD_eq_getElem?_getD, List.getElem?_replicate, if_pos hj, Nat.zero_add]
      exact hz3 j hj)
    have hneq := neq133 W3.drew xs zs (by simp [hxs]) (by simp [hzs])
    rw [← hA] at ld1 hneq
    rw [← hZ] at ld2 hneq
    have HA := Lib.hid hA
    have HZ := Lib.hid hZ
    have HXS := Lib.hid hxs
    have HZS := Lib.hid hzs
    clear hA hZ hxs hzs
    clear hW3
    refine wpIn_region_still_tail (wide_round L) 5 (by kernel_rfl) (by kernel_rfl) (by kernel_rfl) ?_
    simp only [List.take_succ_cons, List.take_zero, List.drop_succ_cons, List.drop_zero]
    still_step
    still_step
    still_step
    refine still_load rfl 133 (.tmp 25) rfl _ _ (by rfl) ld1 ?_
    refine still_load rfl 133 (.tmp 6) rfl _ _ (by rfl) ld2 ?_
    refine wpStill_nil ?_
    have hd3 := hs4.block hd2 (by omega)
    have hl3 := hs4.block hl2 (by omega)
    have b1' := hs4.cell b1 (by simp; omega)
    have b2' := hs4.cell b2 (by simp; omega)
    have b3' := hs4.unfrozen b1 b3 (by simp; omega)
    have b4' := hs4.unfrozen b2 b4 (by simp; omega)
    have hM4 : MemAt W3.drew f fb (M.setR i 1) := hM3.same0 (Same.refl _ W3).drew
    clear hM3 b0 b1 b2 b3 b4 hd2 hl2 c0 c1 z1
    cases hb : xs == zs
    · rw [hb] at hneq
      obtain ⟨zst, hM5, hs6⟩ := hM4.zeroed hi Z (by rw [HZ.out, HZS.out])
      gi_upto_region 9 with (fail)
      refine wpIn_region_lit ?_
      refine wpListIn_val rfl rfl (by intro c hc; cases hc) (exec_move _ _ _ (.tmp 5) _ rfl (by rfl)) ?_
      refine wpListIn_val rfl rfl (by intro c hc; cases hc) (exec_load _ _ _ 133 (.tmp 6) _ _ rfl (by rfl) ld2) ?_
      refine wpListIn_val rfl rfl (by intro c hc; cases hc) (exec_nil _ _ _ (.tmp 29) _ rfl (by rfl)) ?_
      refine wpListIn_val rfl rfl (by intro c hc; cases hc) (exec_bytes _ _ _ (.tmp 31) _ _ rfl (by rfl)) ?_
      refine wpListIn_skp rfl rfl (by intro c hc; cases hc) (exec_store _ _ _ _ 133 (.tmp 32) (.tmp 30) _ _ rfl (by rfl) (by rfl) zst) ?_
      refine wpListIn_nil ?_
      have hs7 := Same.trans ((Same.refl (· = fb) W3).drew) hs6
      have b1'' := hs7.cell b1' (by simp; omega)
      have b2'' := hs7.cell b2' (by simp; omega)
      have b3'' := hs7.unfrozen b1' b3' (by simp; omega)
      have b4'' := hs7.unfrozen b2' b4' (by simp; omega)
      have hl7 := hs7.block hl3 (by omega)
      have hd7 := hs7.block hd3 (by omega)
      obtain ⟨W7, hW7⟩ : ∃ W7, W7 = (W3.drew.setCells fb (i * 65 + 1) Z.toList) := ⟨_, rfl⟩
      rw [← hW7] at hs7 b1'' b2'' b3'' b4'' hl7 hd7 hM5 ⊢
      clear hW7 hs6 zst ld1 ld2 b1' b2' b3' b4' hl3 hd3 hneq
      gi_wp2
      have q1 : Same (fun k => w.heap.size ≤ k) W7 ((W7.setCell ⟨w.heap.size + 1, 0, none⟩ (.int .i64 ↑i)).setCell ⟨w.heap.size + 1 + 1, 0, none⟩ (.int .i64 0)) := ((Same.refl _ W7).setCell _ (.inr (by simp))).setCell _ (.inr (by simp; omega))
      have q2 : Same (fun k => k = w.heap.size + 1 ∨ k = w.heap.size + 1 + 1) W7 ((W7.setCell ⟨w.heap.size + 1, 0, none⟩ (.int .i64 ↑i)).setCell ⟨w.heap.size + 1 + 1, 0, none⟩ (.int .i64 0)) := ((Same.refl _ W7).setCell _ (.inr (by simp))).setCell _ (.inr (by simp))
      refine ⟨q2.block hl7 (by omega), fun W4 hs5 _ hl5 => .inr ⟨rfl, i, hi, hz, h1, ?_, ?_, ?_, ?_, hl5, ?_⟩⟩
      · exact hs5.cell (cell_ne (World.cell?_setCell_same _ _ _ b1'') (.inl (by simp))) (by simp; omega)
      · refine hs5.cell (World.cell?_setCell_same _ _ _ (cell_ne b2'' (.inl (by simp)))) (by simp; omega)
      · exact (hM5.same q2 (by omega) (by omega)).same hs5 (by omega) (by omega)
      · exact ((hs3.mono (fun k _ h => .inl h)).trans (((hs4.trans hs7).mono (fun k _ h => .inr h)).trans' (q1.mono (fun k _ h => .inl h)) (fun k h _ => h))).trans (hs5.mono (fun k _ e => by omega))
      · exact hs5.block (q2.block hd7 (by omega)) (by omega)
    · rw [hb] at hneq
      gi_wp2
      have q1 : Same (fun k => w.heap.size ≤ k) W3 (((W3.setCell ⟨w.heap.size + 1, 0, none⟩ (.int .i64 ↑i)).setCell ⟨w.heap.size + 1 + 1, 0, none⟩ (.int .i64 0)).drew) := (((Same.refl _ W3).setCell _ (.inr (by simp))).setCell _ (.inr (by simp; omega))).drew
      have q2 : Same (fun k => k = w.heap.size + 1 ∨ k = w.heap.size + 1 + 1) W3 (((W3.setCell ⟨w.heap.size + 1, 0, none⟩ (.int .i64 ↑i)).setCell ⟨w.heap.size + 1 + 1, 0, none⟩ (.int .i64 0)).drew) := (((Same.refl _ W3).setCell _ (.inr (by simp))).setCell _ (.inr (by simp))).drew
      have hM5 : MemAt W3 f fb (M.alloc i) := by
        refine (hM4.same0 (w' := W3) ⟨rfl, rfl, rfl, Nat.le_refl _, fun _ _ _ => rfl, fun _ _ => rfl⟩).congr rfl (fun _ _ => rfl) (fun j hj k hk => ?_)
        simp only [Mm.alloc, Mm.setR]
        split
        · rename_i e
          subst e
          have e1 : xs = zs := by simpa using hb
          have e2 : xs[k]? = zs[k]? := by rw [e1]
          rw [HXS.out, HZS.out, List.getElem?_map, List.getElem?_range hk, List.getElem?_replicate, if_pos hk] at e2
          simpa using e2.symm
        · rfl
      refine ⟨q2.block hl3 (by omega), fun W4 hs5 _ hl5 => .inr ⟨rfl, i, hi, hz, h1, ?_, ?_, ?_, ?_, hl5, ?_⟩⟩
      · exact hs5.cell (cell_ne (World.cell?_setCell_same _ _ _ b1') (.inl (by simp))) (by simp; omega)
      · refine hs5.cell (World.cell?_setCell_same _ _ _ (cell_ne b2' (.inl (by simp)))) (by simp; omega)
      · exact (hM5.same q2 (by omega) (by omega)).same hs5 (by omega) (by omega)
      · exact ((hs3.mono (fun k _ h => .inl h)).trans ((hs4.mono (fun k _ h => .inr h)).trans' (q1.mono (fun k _ h => .inl h)) (fun k h _ => h))).trans (hs5.mono (fun k _ e => by omega))
      · exact hs5.block (q2.block hd3 (by omega)) (by omega)
  · rintro e W ⟨⟨v, rfl⟩, ⟨h1, h2, ⟨h31, h32, h33, h34⟩, h4, h5, h6, h7⟩ | ⟨k, hk, hz, h1, h31, h32, hM, h5, h6, h7⟩⟩
    · refine ⟨⟨_, rfl⟩, .inl ⟨h6, fun W2 hs2 _ => ?_⟩⟩
      have b1 := hs2.cell h31 (by simp; omega)
      have b2 := hs2.cell h32 (by simp; omega)
      have b3 := hs2.unfrozen h31 h33 (by simp; omega)
      have b4 := hs2.unfrozen h32 h34 (by simp; omega)
      have hd2 := hs2.block h7 (by omega)
      have hs3 := h5.trans (hs2.mono (fun k _ e => by omega))
      gi_wp2
      have q2 : Same (fun k => k = w.heap.size + 1 ∨ k = w.heap.size + 1 + 1) W2 ((W2.setCell ⟨w.heap.size + 1, 0, none⟩ (.int .i64 0)).setCell ⟨w.heap.size + 1 + 1, 0, none⟩ (.int .i64 11)) := ((Same.refl _ W2).setCell _ (.inr (by simp))).setCell _ (.inr (by simp))
      refine leaves_mark (q2.block hd2 (by omega)) fun W3 hs4 _ => ⟨results_cells2 rfl (by rfl) (by rfl) (loadVar3 _ _ _ ?_) (loadVar25 _ _ _ ?_), .inl ⟨h1, rfl, ?_, ?_⟩⟩
      · exact hs4.cell (cell_ne (World.cell?_setCell_same _ _ _ b1) (.inl (by simp))) (by simp; omega)
      · exact hs4.cell (World.cell?_setCell_same _ _ _ (cell_ne b2 (.inl (by simp)))) (by simp; omega)
      · exact ((H.out.same hs3 (by omega) (by omega)).same q2 (by omega) (by omega)).same hs4 (by omega) (by omega)
      · exact ((hs3.trans (q2.mono (fun k _ h => by omega))).trans (hs4.mono (fun k _ e => by omega))).mono (fun k h h' => by omega)
    · refine ⟨⟨_, rfl⟩, .inr ⟨_, h6, fun W2 hs2 _ => ?_⟩⟩
      have b1 := hs2.cell h31 (by simp; omega)
      have b2 := hs2.cell h32 (by simp; omega)
      have hd2 := hs2.block h7 (by omega)
      have hs3 := h5.trans (hs2.mono (fun k _ e => by omega))
      have hM2 := hM.same hs2 (by omega) (by omega)
      gi_wp2
      refine leaves_mark hd2 fun W3 hs4 _ => ⟨results_cells2 rfl (by rfl) (by rfl) (loadVar3 _ _ _ ?_) (loadVar25 _ _ _ ?_), .inr ⟨k, hk, hz, h1, rfl, ?_, ?_⟩⟩
      · exact hs4.cell b1 (by simp; omega)
      · exact hs4.cell b2 (by simp; omega)
      · exact hM2.same hs4 (by omega) (by omega)
      · exact (hs3.trans (hs4.mono (fun k _ e => by omega))).mono (fun k h h' => by omega)
end Go.Proofs.Ytlbgnmcjdmdjpaa
