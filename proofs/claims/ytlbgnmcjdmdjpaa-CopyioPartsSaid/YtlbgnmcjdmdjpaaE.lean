import Derived.Test.YtlbgnmcjdmdjpaaD
import Derived.Laws.MakeOwn
namespace Go.Proofs.Ytlbgnmcjdmdjpaa
open Go.RowKit Go.Shelf
attribute [local go_sem] Oper.semAt_some

theorem new_bad (w : World) (n : Int) (hn : n < 1 ∨ 256 < n) : Calls Try.prog 20 #[.int .i64 n] w fun e w' => e = .returned (.tuple #[.pointer none, .int .i64 2]) ∧ w = w' := by
  have hb : (decide (n < 1) || decide (256 < n)) = true := by simpa using hn
  clear hn
  go_enter Try.func20, Try.ntmps20
  go_wp2
  all_goals
    go_ret2
    exact ⟨rfl, rfl⟩
theorem shape_alloc (w : World) (c : Array Value) (e : TypeId) (k : Nat) : (w.alloc (.cells c e)).shape? k = if k = w.heap.size then some (e, c.size) else w.shape? k := by
  unfold World.shape? World.alloc
  rw [Array.getElem?_push]
  by_cases h : k = w.heap.size <;> simp [h]
theorem new2 {w w' : World} {x y : Value} {t : TypeId} {S : Nat → Prop} (hs : Same S (w.alloc (.cells #[x, y] t)) w') (hS : ¬ S w.heap.size) :
    w'.cell? ⟨w.heap.size, 0, none⟩ = some x ∧ w'.cell? ⟨w.heap.size, 1, none⟩ = some y ∧ w'.frozen? ⟨w.heap.size, 0, none⟩ = false ∧ w'.frozen? ⟨w.heap.size, 1, none⟩ = false ∧ w.heap.size < w'.heap.size := by
  have h0 : (w.alloc (.cells #[x, y] t)).cell? ⟨w.heap.size, 0, none⟩ = some x := by simp
  have h1 : (w.alloc (.cells #[x, y] t)).cell? ⟨w.heap.size, 1, none⟩ = some y := by simp
  refine ⟨hs.cell h0 hS, hs.cell h1 hS, hs.unfrozen h0 (by simp) hS, hs.unfrozen h1 (by simp) hS, ?_⟩
  have := hs.size; simp at this; omega

def zf : Array Value := (.int .i64 0 :: List.replicate 64 (.int .u8 0)).toArray
theorem zf_get (j : Nat) (hj : j < 65) : zf[j]! = if j = 0 then .int .i64 0 else .int .u8 0 := by
  have : zf[j]? = some (if j = 0 then .int .i64 0 else .int .u8 0) := by
    unfold zf
    rw [List.getElem?_toArray]
    cases j with
    | zero => rfl
    | succ j => rw [List.getElem?_cons_succ, List.getElem?_replicate, if_pos (by omega)]; rfl
  rw [getElem!_def, this]
theorem zf_made (n i q : Nat) (hi : i < n) (hq : q < 65) : (madeCells zf (n * 65))[i * 65 + q]? = some (if q = 0 then .int .i64 0 else .int .u8 0) := by
  have hs : zf.size = 65 := by unfold zf; simp
  have hlt : i * 65 + q < n * 65 := by have := Nat.mul_le_mul_right 65 (show i + 1 ≤ n from hi); omega
  unfold madeCells
  rw [Array.getElem?_map, Array.getElem?_range, if_pos hlt]
  simp only [Option.map_some, hs]
  rw [show (i * 65 + q) % 65 = q by omega, zf_get q hq]
theorem info135 : (Try.prog.info? 135).map (fun i => (i.zero, i.size, i.bytes)) = some (some (.agg zf), 65, 72) := by kernel_rfl
theorem exec_make (w : World) (ρ : Operand → Value) (o : Oper) (x y : Operand) (n : Nat) (hn : n ≤ 256) (hop : o.op = .makeSlice 100 x y) (hx : ρ x = .int .i64 n) (hy : ρ y = .int .i64 n) :
    (execOp ρ o).run Try.prog w = .ok (.value (.slice (some ⟨w.heap.size, 0, none⟩) n n)) (w.alloc (.cells (madeCells zf (n * 65)) 135)) := by
  have hq := info135
  cases h : Try.prog.info? 135 with
  | none => rw [h] at hq; cases hq
  | some i =>
    rw [h] at hq
    simp only [Option.map_some, Option.some.injEq, Prod.mk.injEq] at hq
    obtain ⟨h1, h2, h3⟩ := hq
    have := run_make (P := Try.prog) w 100 135 i _ Try.underlying100 h h1 .i64 .i64 n n (by omega) (by omega) (by rw [h3]; omega) (by omega)
    unfold execOp
    simp only [hop, hx, hy]
    rw [h2] at this
    simp only [Int.toNat_natCast, Value.cells] at this
    simp [this, Sem.run_bind, Result.andThen]

set_option maxHeartbeats 1600000 in
theorem new_any (w : World) (n : Nat) (h1 : 1 ≤ n) (h2 : n ≤ 256) : Calls Try.prog 20 #[.int .i64 n] w fun e w' => ∃ f fb, e = .returned (.tuple #[.pointer (some ⟨f, 0, none⟩), .int .i64 0]) ∧
    w.heap.size ≤ f ∧ w.heap.size ≤ fb ∧ MemAt w' f fb ⟨n, fun _ => 0, fun _ _ => 0⟩ ∧ Same (fun _ => False) w w' := by
  have hb : (decide ((n : Int) < 1) || decide (256 < (n : Int))) = false := by simp; omega
  refine (callsIn_wide (n := 0)).1 ?_
  refine callsIn_of_wp Try.func20 rfl trivial ?_ rfl
  simp only [Try.ntmps20, List.size_toArray, List.length_cons, List.length_nil, Nat.reduceAdd, Nat.reduceSub, Array.replicate_succ, Array.replicate_zero, List.push_toArray, List.append_toArray, List.nil_append, List.cons_append]
  gi_upto_region 3 with (fail)
  refine wpIn_region_lit ?_
  refine wpListIn_val rfl rfl (by intro c hc; cases hc) (exec_move _ _ _ (.tmp 0) _ rfl (by rfl)) ?_
  refine wpListIn_val rfl rfl (by intro c hc; cases hc) (exec_make _ _ _ (.tmp 10) (.tmp 10) n h2 rfl (by rfl) (by rfl)) ?_
  have hM : MemAt ((w.alloc (.cells (madeCells zf (n * 65)) 135)).alloc (.cells #[.slice (some ⟨w.heap.size, 0, none⟩) n n] 102)) (w.heap.size + 1) w.heap.size ⟨n, fun _ => 0, fun _ _ => 0⟩ := by
    have hx : ∀ i q, i < n → q < 65 → ((w.alloc (.cells (madeCells zf (n * 65)) 135)).alloc (.cells #[.slice (some ⟨w.heap.size, 0, none⟩) n n] 102)).cell? ⟨w.heap.size, i * 65 + q, none⟩ = some (if q = 0 then .int .i64 0 else .int .u8 0) := by
      intro i q hi hq
      refine (same_alloc _).cell ?_ (fun h => h)
      rw [World.cell?_alloc_new]
      exact zf_made n i q hi hq
    refine ⟨by simp, fun i hi => ?_, fun i hi k hk => ?_, fun o => by simp, ⟨(n * 65), ?_⟩, ⟨1, ?_⟩, fun i hi => by simp, by simp, h1, h2⟩
    · exact hx i 0 hi (by omega)
    · have := hx i (1 + k) hi (by omega)
      rw [if_neg (by omega), ← Nat.add_assoc] at this
      exact this
    · rw [shape_alloc, if_neg (by simp), shape_alloc, if_pos rfl, size_madeCells]
    · rw [shape_alloc, if_pos (by simp)]; rfl
  have hs : Same (fun _ => False) w ((w.alloc (.cells (madeCells zf (n * 65)) 135)).alloc (.cells #[.slice (some ⟨w.heap.size, 0, none⟩) n n] 102)) := (same_alloc _).alloc _
  have HM := Lib.hid hM
  have HS := Lib.hid hs
  clear hM hs
  gi_wp2
  exact bodyPost_ret (results_tmp2 rfl _ _ _) rfl ⟨_, _, rfl, by omega, by omega, HM.out, HS.out⟩

/-- An entry of a table: its flags, its frame. -/
def Mm.ent (M : Mm) (k i : Nat) : Int × Int := ((M.B k (4 * i)).toNat, (M.B k (4 * i + 2)).toNat * 256 + (M.B k (4 * i + 3)).toNat)
def Mm.get (M : Mm) (t : Int) (i : Nat) : Int × Int := if M.isUsed t then M.ent t.toNat i else (0, 0)
theorem Mm.str4 (M : Mm) (k s : Nat) : M.str k s 4 = ⟨#[M.B k s, M.B k (s + 1), M.B k (s + 2), M.B k (s + 3)]⟩ := rfl
theorem bits_or_i64_nat (a b : Nat) (ha : a < 9223372036854775808) (hb : b < 9223372036854775808) : bits .or .i64 (a : Int) (b : Int) = ((a ||| b : Nat) : Int) := by
  have hx : a ||| b < 2 ^ 63 := Nat.or_lt_two_pow (by omega) (by omega)
  have h1 : (BitVec.ofInt 64 (a : Int)).toNat = a := by
    rw [BitVec.ofInt_natCast, BitVec.toNat_ofNat]; exact Nat.mod_eq_of_lt (by omega)
  have h2 : (BitVec.ofInt 64 (b : Int)).toNat = b := by
    rw [BitVec.ofInt_natCast, BitVec.toNat_ofNat]; exact Nat.mod_eq_of_lt (by omega)
  show IntKind.i64.wrap ((BitVec.ofInt 64 (a : Int) ||| BitVec.ofInt 64 (b : Int)).toNat : Int) = _
  rw [BitVec.toNat_or, h1, h2, IntKind.wrap_i64]
  omega
theorem wrap64_id (n : Nat) (h : n < 9223372036854775808) : wrap64 (n : Int) = n := by
  unfold wrap64
  omega
theorem or_byte (a b : UInt8) : bits .or .i64 (wrap64 (wrap64 (a.toNat : Int) * 256)) (wrap64 (b.toNat : Int)) = (a.toNat : Int) * 256 + b.toNat := by
  have ha := a.toNat_lt
  have hb := b.toNat_lt
  rw [wrap64_id a.toNat (by omega), show ((a.toNat : Int) * 256) = ((a.toNat * 256 : Nat) : Int) by omega, wrap64_id (a.toNat * 256) (by omega), wrap64_id b.toNat (by omega), bits_or_i64_nat _ _ (by omega) (by omega)]
  have := Nat.shiftLeft_add_eq_or_of_lt (i := 8) (b := b.toNat) (by omega) a.toNat
  rw [Nat.shiftLeft_eq] at this
  rw [show a.toNat * 256 = a.toNat * 2 ^ 8 from rfl, ← this]
  simp
theorem bs0 (a b c d : UInt8) (h) : (⟨#[a, b, c, d]⟩ : ByteArray)[0]'h = a := rfl
theorem bs2 (a b c d : UInt8) (h) : (⟨#[a, b, c, d]⟩ : ByteArray)[2]'h = c := rfl
theorem bs3 (a b c d : UInt8) (h) : (⟨#[a, b, c, d]⟩ : ByteArray)[3]'h = d := rfl
theorem results_cell1 {fn : Func} {p : Tmp} {t : TypeId} (h : fn.results = #[.cell p t]) {tmps : Array Value} {P : Program} {w : World} {a : Addr} {x : Value} (hp : tmps.getD p undef = .pointer (some a))
    (h1 : (loadVar t a).run P w = .ok x w) : (results fn tmps).run P w = .ok x w := by
  have e1 : (asAddr (tmps.getD p undef)).run P w = .ok a w := by rw [hp]; simp [asAddr]
  rw [Array.getD_eq_getD_getElem?] at e1
  simp only [results, h]
  simp [Sem.run_bind, Result.andThen, e1, h1]
theorem loadVar108 (w : World) (b o : Nat) (x y : Value) (h : w.cell? ⟨b, o, none⟩ = some x) (h1 : w.cell? ⟨b, o + 1, none⟩ = some y) : (loadVar 108 ⟨b, o, none⟩).run Try.prog w = .ok (.agg #[x, y]) w := by simp [go_sem, h, h1]
set_option maxHeartbeats 1600000 in
set_option maxRecDepth 8192 in
theorem get_any {w : World} {f fb : Nat} {M : Mm} (h : MemAt w f fb M) (t : Int) (i : Nat) (hi : i < 16) :
    Calls Try.prog 63 #[.pointer (some ⟨f, 0, none⟩), .int .i64 t, .int .i64 i] w fun e w' => e = .returned (.agg #[.int .i64 (M.get t i).1, .int .i64 (M.get t i).2]) ∧ Same (fun _ => False) w w' := by
  cases hu : M.isUsed t with
  | false =>
    refine (callsIn_wide (n := 0)).1 ?_
    refine callsIn_of_wp Try.func63 rfl trivial ?_ rfl
    simp only [Try.ntmps63, List.size_toArray, List.length_cons, List.length_nil, Nat.reduceAdd, Nat.reduceSub, Array.replicate_succ, Array.replicate_zero, List.push_toArray, List.append_toArray, List.nil_append, List.cons_append]
    gi_wp2_with (gi_at_call 35; refine CallsIn.mono (callsIn_wide.2 (read_bad (h.same0 (same_alloc _)) t _ _ hu)) ?_; rintro e w' ⟨rfl, hs⟩; obtain ⟨c0, c1, z0, z1, l1⟩ := new2 hs (by simp))
    have hr : M.get t i = (0, 0) := by simp [Mm.get, hu]
    refine bodyPost_ret (results_cell1 rfl (by rfl) (loadVar108 _ _ _ _ _ (cell_ne (World.cell?_setCell_same _ _ _ c0) (by simp)) (World.cell?_setCell_same _ _ _ (cell_ne c1 (by simp))))) rfl ⟨by rw [hr], ?_⟩
    exact ((((Same.refl _ w).alloc _).trans (hs.mono (by simp))).setCell (S := fun k => w.heap.size ≤ k) _ (.inr (by simp))).setCell _ (.inr (by simp)) |>.mono (fun k h h' => by omega)
  | true =>
    obtain ⟨k, rfl, hk, hR⟩ := Mm.used_iff hu
    have hii : ((4 * i : Nat) : Int) = 4 * (i : Int) := by omega
    have hrd := fun w' (hM : MemAt w' f fb M) => read_ok hM k (4 * i) 4 hk hR (by omega) (by omega)
    rw [Mm.str4] at hrd
    rw [hii] at hrd
    refine (callsIn_wide (n := 0)).1 ?_
    refine callsIn_of_wp Try.func63 rfl trivial ?_ rfl
    simp only [Try.ntmps63, List.size_toArray, List.length_cons, List.length_nil, Nat.reduceAdd, Nat.reduceSub, Array.replicate_succ, Array.replicate_zero, List.push_toArray, List.append_toArray, List.nil_append, List.cons_append]
    gi_wp2_with (gi_at_call 35; refine CallsIn.mono (callsIn_wide.2 (hrd _ (h.same0 (same_alloc _)))) ?_; rintro e w' ⟨rfl, hs⟩)
    obtain ⟨c0, c1, z0, z1, l1⟩ := new2 hs (by simp)
    have c0' : w'.drew.cell? ⟨w.heap.size, 0, none⟩ = some (.int .i64 0) := c0
    have c1' : w'.drew.cell? ⟨w.heap.size, 1, none⟩ = some (.int .i64 0) := c1
    have z0' : w'.drew.frozen? ⟨w.heap.size, 0, none⟩ = false := z0
    have z1' : w'.drew.frozen? ⟨w.heap.size, 1, none⟩ = false := z1
    refine wpIn_region_still_tail wide_self 12 (by kernel_rfl) (by kernel_rfl) (by kernel_rfl) ?_
    simp only [List.take_succ_cons, List.take_zero, List.drop_succ_cons, List.drop_zero]
    repeat still_step
    refine wpStill_nil ?_
    gi_wp2
    have hr : M.get k i = (((M.B k (4 * i)).toNat : Int), ((M.B k (4 * i + 2)).toNat : Int) * 256 + ((M.B k (4 * i + 3)).toNat : Int)) := by simp [Mm.get, hu, Mm.ent]
    have e0 := wrap64_id (M.B k (4 * i)).toNat (by have := (M.B k (4 * i)).toNat_lt; omega)
    have e1 := or_byte (M.B k (4 * i + 2)) (M.B k (4 * i + 3))
    simp only [bs0, bs2, bs3, e0, e1]
    refine bodyPost_ret (results_cell1 rfl (by rfl) (loadVar108 _ _ _ _ _ (cell_ne (World.cell?_setCell_same _ _ _ c0) (by simp)) (World.cell?_setCell_same _ _ _ (cell_ne c1 (by simp))))) rfl ⟨?_, ?_⟩
    · rw [hr]
    · exact ((((Same.refl _ w).alloc _).trans (hs.mono (by simp))).setCell (S := fun k => w.heap.size ≤ k) _ (.inr (by simp))).setCell _ (.inr (by simp)) |>.drew |>.mono (fun k h h' => by omega)
end Go.Proofs.Ytlbgnmcjdmdjpaa
