/- proc: the table's form; find, Get. Conditions: the table's form. -/
import Derived.Test.YtaeabeofpkfadaaMp
import Derived.Test.YtaeabeofpkfadaaProg
import Derived.WalkKit
import Derived.ChangeOld
namespace Go.Proofs.Ytaeabeofpkfadaa
open Go.RowKit Go.Shelf
attribute [local go_sem] Oper.semAt_some

def In64 (p : Int) : Prop := -9223372036854775808 ≤ p ∧ p ≤ 9223372036854775807
/-- A process, and its block. -/
structure Pr where
  pid : Int
  par : Int
  st : Int
  uid : Int
  gid : Int
  ch : ByteArray
  stat : Int
  kil : Bool
  b : Nat
def Pr.vals (p : Pr) : List Value := [.int .i64 p.pid, .int .i64 p.par, .int .i64 p.st, .int .i64 p.uid, .int .i64 p.gid, .string p.ch, .int .i64 p.stat, .bool p.kil]
def Pr.agg (p : Pr) : Value := .agg #[.int .i64 p.pid, .int .i64 p.par, .int .i64 p.st, .int .i64 p.uid, .int .i64 p.gid, .string p.ch, .int .i64 p.stat, .bool p.kil]
def Pr.zero : Value := .agg #[.int .i64 0, .int .i64 0, .int .i64 0, .int .i64 0, .int .i64 0, .string ⟨#[]⟩, .int .i64 0, .bool false]
def alOf (L : List Pr) : List (Int × Value) := L.map fun p => (p.pid, .pointer (some ⟨p.b, 0, none⟩))
def lget (L : List Pr) (pid : Int) : Option Pr := L.find? (fun p => p.pid = pid)
theorem lget_some {L : List Pr} {pid : Int} {p : Pr} (h : lget L pid = some p) : p ∈ L ∧ p.pid = pid := by
  have h1 := List.find?_some h
  simp only [decide_eq_true_eq] at h1
  exact ⟨List.mem_of_find?_eq_some h, h1⟩
theorem aget_alOf (L : List Pr) (pid : Int) : aget (alOf L) pid = (lget L pid).map fun p => .pointer (some ⟨p.b, 0, none⟩) := by
  induction L with
  | nil => rfl
  | cons p L ih =>
    unfold alOf lget at ih ⊢
    rw [List.map_cons, List.find?_cons]
    by_cases e : p.pid = pid
    · simp [aget, e]
    · have e' : ¬ pid = p.pid := fun h => e h.symm
      simp [aget, e, e', ih]

abbrev kvi : Int → Value := fun n => .int .i64 n
theorem MapIs_alloc {w : World} {m : Nat} {al : List (Int × Value)} (h : MapIs kvi w m al) (o : Obj) : MapIs kvi (w.alloc o) m al := h.same (same_alloc o) (by simp)
theorem MapIs_setCell {w : World} {m : Nat} {al : List (Int × Value)} (h : MapIs kvi w m al) (a : Addr) (v : Value) : MapIs kvi (w.setCell a v) m al := by
  obtain ⟨es, clk, h1, h2⟩ := h
  refine ⟨es, clk, ?_, h2⟩
  simp only [World.setCell, Array.getElem?_modify]
  by_cases e : a.block = m
  · rw [if_pos e, h1]; rfl
  · rw [if_neg e, h1]
theorem MapIs_drewN {w : World} {m : Nat} {al : List (Int × Value)} (h : MapIs kvi w m al) (n : Nat) : MapIs kvi (w.drewN n) m al := h
theorem MapIs_drew {w : World} {m : Nat} {al : List (Int × Value)} (h : MapIs kvi w m al) : MapIs kvi w.drew m al := h
theorem lk61 {W : World} {m : Nat} {al : List (Int × Value)} (hm : MapIs kvi W m al) (pid : Int) :
    (Instr.lookup 61 (.map (some m)) (.int .i64 pid) true).run Try.prog W = .ok (.tuple #[(aget al pid).getD (.pointer none), .bool (aget al pid).isSome]) W :=
  run_lookup_is (P := Try.prog) (T := 61) (K := 3) (E := 60) Try.underlying61 (key_int Try.underlying3) (fun _ => by kernel_rfl) hm pid true
theorem lk61n {W : World} {m : Nat} {al : List (Int × Value)} (hm : MapIs kvi W m al) (pid : Int) :
    (Instr.lookup 61 (.map (some m)) (.int .i64 pid) false).run Try.prog W = .ok ((aget al pid).getD (.pointer none)) W :=
  run_lookup_is (P := Try.prog) (T := 61) (K := 3) (E := 60) Try.underlying61 (key_int Try.underlying3) (fun _ => by kernel_rfl) hm pid false
attribute [local go_sem] MapIs_alloc MapIs_setCell MapIs_drewN MapIs_drew

/-- A process lies in its block. -/
def PrAt (w : World) (p : Pr) : Prop := ∀ i v, p.vals[i]? = some v → w.cell? ⟨p.b, i, none⟩ = some v ∧ w.frozen? ⟨p.b, i, none⟩ = false
theorem PrAt.same {S : Nat → Prop} {w w' : World} {p : Pr} (h : PrAt w p) (hs : Same S w w') (hS : ¬ S p.b) : PrAt w' p := fun i v hv => ⟨hs.cell (h i v hv).1 hS, hs.unfrozen (h i v hv).1 (h i v hv).2 hS⟩
theorem PrAt.lt {w : World} {p : Pr} (h : PrAt w p) : p.b < w.heap.size := World.block_lt_of_cell? _ _ (h 0 _ rfl).1
/-- The blocks of a table. -/
def Own (t m : Nat) (L : List Pr) (b : Nat) : Prop := b = t ∨ b = m ∨ ∃ p ∈ L, p.b = b
structure TabAt (w : World) (t m : Nat) (L : List Pr) (last : Int) : Prop where
  t0 : w.cell? ⟨t, 0, none⟩ = some (.map (some m))
  t1 : w.cell? ⟨t, 1, none⟩ = some (.int .i64 last)
  tz : w.frozen? ⟨t, 1, none⟩ = false
  hm : MapIs kvi w m (alOf L)
  pr : ∀ p ∈ L, PrAt w p
  asc : L.Pairwise (fun a b => a.pid < b.pid)
  bi : L.Pairwise (fun a b => a.b ≠ b.b)
  nb : ∀ p ∈ L, p.b ≠ t ∧ p.b ≠ m
  tm : t ≠ m
theorem TabAt.lt {w : World} {t m : Nat} {L : List Pr} {last : Int} (h : TabAt w t m L last) : t < w.heap.size ∧ m < w.heap.size ∧ ∀ p ∈ L, p.b < w.heap.size :=
  ⟨World.block_lt_of_cell? _ _ h.t0, h.hm.lt, fun p hp => (h.pr p hp).lt⟩
theorem TabAt.same {S : Nat → Prop} {w w' : World} {t m : Nat} {L : List Pr} {last : Int} (h : TabAt w t m L last) (hs : Same S w w') (hS : ∀ b, Own t m L b → ¬ S b) : TabAt w' t m L last :=
  ⟨hs.cell h.t0 (hS _ (.inl rfl)), hs.cell h.t1 (hS _ (.inl rfl)), hs.unfrozen h.t1 h.tz (hS _ (.inl rfl)), h.hm.same hs (hS _ (.inr (.inl rfl))), fun p hp => (h.pr p hp).same hs (hS _ (.inr (.inr ⟨p, hp, rfl⟩))), h.asc, h.bi, h.nb, h.tm⟩
theorem TabAt.same0 {w w' : World} {t m : Nat} {L : List Pr} {last : Int} (h : TabAt w t m L last) (hs : Same (fun _ => False) w w') : TabAt w' t m L last := h.same hs (fun _ _ hh => hh)

def pv : Option Pr → Value
  | none => .pointer none
  | some p => .pointer (some ⟨p.b, 0, none⟩)
def fe : Option Pr → Int
  | none => 60
  | some _ => 0

theorem find_nil (w : World) (pid : Int) : Calls Try.prog 28 #[.pointer none, .int .i64 pid] w fun e w' => e = .returned (.tuple #[.pointer none, .int .i64 1]) ∧ w' = w := by
  go_enter Try.func28, Try.ntmps28
  go_wp2
  go_ret2
  exact ⟨rfl, rfl⟩
theorem find_any {w : World} {t m : Nat} {L : List Pr} {last : Int} (h : TabAt w t m L last) (pid : Int) :
    Calls Try.prog 28 #[.pointer (some ⟨t, 0, none⟩), .int .i64 pid] w fun e w' => e = .returned (.tuple #[pv (lget L pid), .int .i64 (fe (lget L pid))]) ∧ w' = w := by
  have h0 := h.t0
  have hlk := lk61 h.hm pid
  rw [aget_alOf] at hlk
  cases hg : lget L pid with
  | none =>
    rw [hg] at hlk
    simp only [Option.map_none, Option.getD_none, Option.isSome_none] at hlk
    clear hg h
    go_enter Try.func28, Try.ntmps28
    go_wp2
    go_ret2
    exact ⟨rfl, rfl⟩
  | some p =>
    rw [hg] at hlk
    simp only [Option.map_some, Option.getD_some, Option.isSome_some] at hlk
    clear hg h
    go_enter Try.func28, Try.ntmps28
    go_wp2
    go_ret2
    exact ⟨rfl, rfl⟩
theorem get_nil (w : World) (pid : Int) : Calls Try.prog 14 #[.pointer none, .int .i64 pid] w fun e w' => e = .returned (.tuple #[Pr.zero, .int .i64 1]) ∧ Same (fun _ => False) w w' := by
  go_enter Try.func14, Try.ntmps14
  go_wp2_with fail
  refine (find_nil _ pid).mono ?_
  rintro e w1 ⟨rfl, rfl⟩
  go_wp2
  refine bodyPost_ret (v := .tuple #[Pr.zero, .int .i64 1]) (by simp [results, Try.results14, go_sem, Pr.zero]) rfl ⟨rfl, same_alloc _⟩

def getv : Option Pr → Value
  | none => Pr.zero
  | some p => p.agg
/-- What a fresh block of eight cells holds. -/
theorem get_any {w : World} {t m : Nat} {L : List Pr} {last : Int} (h : TabAt w t m L last) (pid : Int) :
    Calls Try.prog 14 #[.pointer (some ⟨t, 0, none⟩), .int .i64 pid] w fun e w' => e = .returned (.tuple #[getv (lget L pid), .int .i64 (fe (lget L pid))]) ∧ Same (fun _ => False) w w' := by
  have hfa := find_any (h.same0 (same_alloc (.cells #[.int .i64 0, .int .i64 0, .int .i64 0, .int .i64 0, .int .i64 0, .string ⟨#[]⟩, .int .i64 0, .bool false] 34))) pid
  cases hg : lget L pid with
  | none =>
    rw [hg] at hfa
    simp only [pv, fe] at hfa
    clear hg h
    go_enter Try.func14, Try.ntmps14
    go_wp2_with fail
    refine hfa.mono ?_
    rintro e w1 ⟨rfl, rfl⟩
    go_wp2
    refine bodyPost_ret (v := .tuple #[Pr.zero, .int .i64 60]) (by simp [results, Try.results14, go_sem, Pr.zero]) rfl ⟨rfl, same_alloc _⟩
  | some p =>
    rw [hg] at hfa
    simp only [pv, fe] at hfa
    have hp := h.pr p (lget_some hg).1
    have hlt := hp.lt
    have c0 := (hp 0 _ rfl).1
    have c1 := (hp 1 _ rfl).1
    have c2 := (hp 2 _ rfl).1
    have c3 := (hp 3 _ rfl).1
    have c4 := (hp 4 _ rfl).1
    have c5 := (hp 5 _ rfl).1
    have c6 := (hp 6 _ rfl).1
    have c7 := (hp 7 _ rfl).1
    clear hg h hp
    go_enter Try.func14, Try.ntmps14
    go_wp2_with fail
    refine hfa.mono ?_
    rintro e w1 ⟨rfl, rfl⟩
    go_wp2
    exact bodyPost_ret (v := .tuple #[p.agg, .int .i64 0]) (by simp [results, Try.results14, go_sem, Pr.agg]) rfl ⟨rfl, same_alloc _⟩
end Go.Proofs.Ytaeabeofpkfadaa
