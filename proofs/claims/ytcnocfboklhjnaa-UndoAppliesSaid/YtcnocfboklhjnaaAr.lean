/- undo: slice arguments of ints, and of triples of ints, opened. No condition. -/
import Derived.Test.YtcnocfboklhjnaaSm
import Derived.Test.YtcnocfboklhjnaaSl
namespace Go.Proofs.Ytcnocfboklhjnaa
open Go.RowKit Go.Shelf Go.ChangeShapes Go.WideShapes Go.Deep

/-- A list of adjustments, or of operations, that was given. -/
structure ArgT (w : World) (a : Option Addr) (c : Nat) (L : List Tri) : Prop where
  row : TriR w a L
  len : L.length ≤ maxLen
  cap : L.length ≤ c
  nil : a = none → L = [] ∧ c = 0
  blk : ∀ x, a = some x → x.block < w.heap.size
/-- A list of ints that was given. -/
structure ArgI (w : World) (a : Option Addr) (c : Nat) (l : List Int) : Prop where
  row : IntR w a l
  len : l.length ≤ maxLen
  cap : l.length ≤ c
  nil : a = none → l = [] ∧ c = 0
  blk : ∀ x, a = some x → x.block < w.heap.size
  spot : a = none ∨ ∃ b o, a = some ⟨b, o, none⟩
theorem in64 {p : Int} (h : (Lit.int .i64 p).wf = true) : In64 p := by
  simp [Lit.wf, IntKind.min, IntKind.max, IntKind.signed, IntKind.bits] at h
  unfold In64; omega
theorem list_of {α : Type} {P : Nat → α → Prop} : ∀ (n : Nat), (∀ i, i < n → ∃ x, P i x) → ∃ L : List α, L.length = n ∧ ∀ i x, L[i]? = some x → P i x
  | 0, _ => ⟨[], rfl, fun i x h => by simp at h⟩
  | n + 1, h => by
    obtain ⟨L, h1, h2⟩ := list_of n (fun i hi => h i (by omega))
    obtain ⟨x, hx⟩ := h n (by omega)
    refine ⟨L ++ [x], by simp [h1], fun i y hy => ?_⟩
    by_cases hi : i < L.length
    · rw [List.getElem?_append_left hi] at hy
      exact h2 i y hy
    · rw [List.getElem?_append_right (by omega)] at hy
      have hlt := (List.getElem?_eq_some_iff.1 hy).1
      simp at hlt
      have : i = n := by omega
      subst this
      rw [h1] at hy
      simp at hy
      subst hy
      exact hx
theorem okWide_slice2 {P : Program} {w : World} {r : Reach} {base : Nat} {t e : TypeId} {v : Value} (ht : P.underlying t = some (.slice e)) (h : Value.okWide P w r base t v) :
    v = .slice none 0 0 ∨ ∃ (a : Addr) (len cap : Nat), v = .slice (some a) len cap ∧ len ≤ cap ∧ a.spot = none ∧ a.block < w.heap.size := by
  simp only [Value.okWide, ht, Cell.okWide] at h
  cases v with
  | slice a len cap =>
    cases a with
    | none =>
      left
      cases len with
      | zero =>
        cases cap with
        | zero => rfl
        | succ c => simp [Cell.ok, ht] at h
      | succ n => simp [Cell.ok, ht] at h
    | some a =>
      right
      simp only [Cell.ok, ht, World.has] at h
      obtain ⟨h1, h2, h3, h4, row, cells, h5, h6⟩ := h
      refine ⟨a, len, cap, rfl, h1, h4, ?_⟩
      unfold World.shape? at h5
      by_cases hlt : a.block < w.heap.size
      · exact hlt
      · rw [Array.getElem?_eq_none (by omega)] at h5
        simp at h5
  | _ => simp_all [Cell.ok]
section
variable {H : Type} {enc : TypeId × Value → H} {w : World} {base b2 : Nat} {spare : Nat → Bool} {held : Bool} {r : Reach}
set_option maxRecDepth 65536 in
theorem arg_tri {t e n fuel : Nat} {v : Value} {x : DataW H × List MemPlace} (ht : Try.prog.underlying t = some (.slice e)) (hc : Try.prog.cellsOf e = 3) (hl0 : ((List.range 3).all fun j => decide (leafAt Try.prog n e j = some 3)) = true)
    (h : DataW.trod enc Try.prog w base spare held fuel t [v] = some x) (hv : Value.okWide Try.prog w r b2 t v) :
    ∃ (a : Option Addr) (c : Nat) (L : List Tri), v = .slice a L.length c ∧ ArgT w a c L ∧ ∀ t ∈ L, In64 t.id ∧ In64 t.num ∧ In64 t.n := by
  rcases okWide_slice2 ht hv with rfl | ⟨a, len, cap, rfl, hlc, hsp, hbl⟩
  · exact ⟨none, 0, [], rfl, ⟨fun i t h => by simp at h, by decide, by decide, fun _ => ⟨rfl, rfl⟩, fun x hx => (by cases hx)⟩, fun t h => by simp at h⟩
  obtain ⟨a0, n0, c0, hva, hlen, hrows, hnil⟩ := rows_ints (P := Try.prog) (e := e) (t' := 3) (n := n) (nl := 3) ht hc hl0 Try.underlying3 h
  cases hva
  obtain ⟨L, hL, hx⟩ := list_of (α := Tri) (P := fun i t => TriAt w (a.add (i * 3)) t ∧ In64 t.id ∧ In64 t.num ∧ In64 t.n) len (fun i hi => by
    obtain ⟨K0, g0, f0⟩ := hrows a rfl i hi 0 (by omega)
    obtain ⟨K1, g1, f1⟩ := hrows a rfl i hi 1 (by omega)
    obtain ⟨K2, g2, f2⟩ := hrows a rfl i hi 2 (by omega)
    refine ⟨⟨K0, K1, K2⟩, ⟨by simpa using g0, ?_, ?_⟩, in64 f0, in64 f1, in64 f2⟩
    · rw [(add_off a _).1, (add_off a _).2, Nat.add_assoc, ← add_pos a (by omega)]; exact g1
    · rw [(add_off a _).1, (add_off a _).2, Nat.add_assoc, ← add_pos a (by omega)]; exact g2)
  subst hL
  refine ⟨some a, cap, L, rfl, ⟨fun i t hi => ⟨a, rfl, (hx i t hi).1⟩, hlen, hlc, fun h => (by cases h), fun x hx => (by cases hx; exact hbl)⟩, fun t ht => ?_⟩
  obtain ⟨i, hi⟩ := List.getElem?_of_mem ht
  exact (hx i t hi).2
set_option maxRecDepth 65536 in
theorem arg_int {t n fuel : Nat} {v : Value} {x : DataW H × List MemPlace} (ht : Try.prog.underlying t = some (.slice 3)) (hc : Try.prog.cellsOf 3 = 1) (hl0 : ((List.range 1).all fun j => decide (leafAt Try.prog n 3 j = some 3)) = true)
    (h : DataW.trod enc Try.prog w base spare held fuel t [v] = some x) (hv : Value.okWide Try.prog w r b2 t v) :
    ∃ (a : Option Addr) (c : Nat) (L : List Int), v = .slice a L.length c ∧ ArgI w a c L ∧ ∀ t ∈ L, In64 t := by
  rcases okWide_slice2 ht hv with rfl | ⟨a, len, cap, rfl, hlc, hsp, hbl⟩
  · exact ⟨none, 0, [], rfl, ⟨fun i t h => by simp at h, by decide, by decide, fun _ => ⟨rfl, rfl⟩, fun x hx => (by cases hx), .inl rfl⟩, fun t h => by simp at h⟩
  obtain ⟨a0, n0, c0, hva, hlen, hrows, hnil⟩ := rows_ints (P := Try.prog) (e := 3) (t' := 3) (n := n) (nl := 1) ht hc hl0 Try.underlying3 h
  cases hva
  obtain ⟨b, o, sp⟩ := a
  obtain rfl : sp = none := hsp
  obtain ⟨L, hL, hx⟩ := list_of (α := Int) (P := fun i t => w.cell? ⟨b, o + i, none⟩ = some (.int .i64 t) ∧ In64 t) len (fun i hi => by
    obtain ⟨K0, g0, f0⟩ := hrows _ rfl i hi 0 (by omega)
    refine ⟨K0, ?_, in64 f0⟩
    have e : (⟨b, o, none⟩ : Addr).add (i * 1 + 0) = ⟨b, o + i, none⟩ := by
      unfold Addr.add
      simp only [Nat.mul_one, Nat.add_zero]
      split
      · rename_i h; subst h; rfl
      · rfl
    rw [e] at g0
    exact g0)
  subst hL
  refine ⟨some ⟨b, o, none⟩, cap, L, rfl, ⟨fun i t hi => ⟨b, o, rfl, (hx i t hi).1⟩, hlen, hlc, fun h => (by cases h), fun x hx => (by cases hx; exact hbl), .inr ⟨b, o, rfl⟩⟩, fun t ht => ?_⟩
  obtain ⟨i, hi⟩ := List.getElem?_of_mem ht
  exact (hx i t hi).2
end
end Go.Proofs.Ytcnocfboklhjnaa
