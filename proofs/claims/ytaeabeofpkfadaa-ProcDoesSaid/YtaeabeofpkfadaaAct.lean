/- proc: a row of acts. No condition. -/
import Derived.Test.YtaeabeofpkfadaaY
import Derived.Test.YtaeabeofpkfadaaOp
namespace Go.Proofs.Ytaeabeofpkfadaa
open Go.RowKit Go.Shelf Go.ChangeShapes Go.WideShapes Go.Deep

theorem add_add2 (a : Addr) (n k : Nat) : (a.add n).add k = a.add (n + k) := by
  unfold Addr.add
  by_cases h1 : n = 0 <;> by_cases h2 : k = 0 <;> simp [h1, h2, Nat.add_assoc]
/-- An act's cells, as a load spells them. -/
structure ActAt (w : World) (x : Addr) (o : Do) : Prop where
  c0 : w.cell? x = some (.int .i64 o.d)
  c1 : w.cell? ⟨x.block, x.off + 1, none⟩ = some (.int .i64 o.pid)
  c2 : w.cell? ⟨x.block, x.off + 2, none⟩ = some (.int .i64 o.stat)
  c3 : w.cell? ⟨x.block, x.off + 3, none⟩ = some (.int .i64 o.uid)
  c4 : w.cell? ⟨x.block, x.off + 4, none⟩ = some (.int .i64 o.gid)
  c5 : w.cell? ⟨x.block, x.off + 5, none⟩ = some (.string o.ch)
/-- The acts lie in a row. -/
def ActsAt (w : World) (a : Option Addr) (len : Nat) (g : Nat → Do) : Prop := ∀ i, i < len → ∃ x, a = some x ∧ ActAt w (x.add (i * 6)) (g i)
theorem ActAt.same {w w' : World} {S : Nat → Prop} {x : Addr} {o : Do} (h : ActAt w x o) (hs : Same S w w') (hS : ∀ b, b < w.heap.size → ¬ S b) : ActAt w' x o := by
  have key : ∀ (a : Addr) (v : Value), w.cell? a = some v → w'.cell? a = some v := fun a v hc => hs.cell hc (hS _ (World.block_lt_of_cell? _ _ hc))
  exact ⟨key _ _ h.c0, key _ _ h.c1, key _ _ h.c2, key _ _ h.c3, key _ _ h.c4, key _ _ h.c5⟩
theorem TabI.act {w w' : World} {t m : Nat} {L : List Pr} {last : Int} (h : TabI w t m L last) (x : Do) {b : Nat} (hT : TabAt w' t m (actL L last x b) (actLast L last x)) : TabI w' t m (actL L last x b) (actLast L last x) := ⟨hT, h.inv.act x b⟩
theorem own_new {t m s : Nat} {L : List Pr} (ht : s ≤ t) (hm : s ≤ m) (hL : ∀ p ∈ L, s ≤ p.b) {k : Nat} (h : Own t m L k) : s ≤ k := by
  rcases h with h | h | ⟨p, hp, h⟩
  · omega
  · omega
  · have := hL p hp; omega
theorem new_one {w w' : World} {t m b : Nat} (h : TabAt w' t m [one b] 1) (hb : w.heap.size ≤ b) : TabI w' t m [one b] 1 ∧ ∀ p ∈ [one b], w.heap.size ≤ p.b :=
  ⟨⟨h, Inv.zero b⟩, fun p hp => by obtain rfl := List.mem_singleton.1 hp; exact hb⟩

section
variable {H : Type} {enc : TypeId × Value → H} {w : World} {base : Nat} {spare : Nat → Bool} {held : Bool}
theorem rows_acts {fuel : Nat} {v : Value} {x : DataW H × List MemPlace} (h : DataW.trod enc Try.prog w base spare held fuel 42 [v] = some x) :
    ∃ (a : Option Addr) (len cap : Nat) (g : Nat → Do), v = .slice a len cap ∧ len ≤ maxLen ∧ ActsAt w a len g := by
  rcases open_rows Try.underlying42 h with rfl | ⟨a, len, cap, rfl, h1, h2, h3⟩
  · exact ⟨none, 0, 0, fun _ => ⟨0, 0, 0, 0, 0, ⟨#[]⟩⟩, rfl, Nat.zero_le _, fun i hi => by omega⟩
  · have key : ∀ i, i < len → ∃ o : Do, ActAt w (a.add (i * 6)) o := by
      intro i hi
      obtain ⟨cs, m, y, h4, h5⟩ := h3 i hi
      have hc : Try.prog.cellsOf 47 = 6 := by kernel_rfl
      rw [hc] at h4
      obtain ⟨K0, e0, _⟩ := leaf_int (P := Try.prog) (n := 4) (t := 47) (j := 0) (t' := 3) (k := .i64) (by kernel_rfl) Try.underlying3 h5
      obtain ⟨K1, e1, _⟩ := leaf_int (P := Try.prog) (n := 4) (t := 47) (j := 1) (t' := 3) (k := .i64) (by kernel_rfl) Try.underlying3 h5
      obtain ⟨K2, e2, _⟩ := leaf_int (P := Try.prog) (n := 4) (t := 47) (j := 2) (t' := 3) (k := .i64) (by kernel_rfl) Try.underlying3 h5
      obtain ⟨K3, e3, _⟩ := leaf_int (P := Try.prog) (n := 4) (t := 47) (j := 3) (t' := 3) (k := .i64) (by kernel_rfl) Try.underlying3 h5
      obtain ⟨K4, e4, _⟩ := leaf_int (P := Try.prog) (n := 4) (t := 47) (j := 4) (t' := 3) (k := .i64) (by kernel_rfl) Try.underlying3 h5
      obtain ⟨K5, e5, _⟩ := leaf_string (P := Try.prog) (n := 4) (t := 47) (j := 5) (t' := 9) (by kernel_rfl) Try.underlying9 h5
      have g0 := (h4 0 (by omega)).trans e0
      have g1 := (h4 1 (by omega)).trans e1
      have g2 := (h4 2 (by omega)).trans e2
      have g3 := (h4 3 (by omega)).trans e3
      have g4 := (h4 4 (by omega)).trans e4
      have g5 := (h4 5 (by omega)).trans e5
      rw [← add_add2] at g1 g2 g3 g4 g5
      exact ⟨⟨K0, K1, K2, K3, K4, K5⟩, g0, g1, g2, g3, g4, g5⟩
    refine ⟨some a, len, cap, fun i => if hi : i < len then (key i hi).choose else ⟨0, 0, 0, 0, 0, ⟨#[]⟩⟩, rfl, by omega, fun i hi => ⟨a, rfl, ?_⟩⟩
    simp only [hi, dite_true]
    exact (key i hi).choose_spec
end
end Go.Proofs.Ytaeabeofpkfadaa
