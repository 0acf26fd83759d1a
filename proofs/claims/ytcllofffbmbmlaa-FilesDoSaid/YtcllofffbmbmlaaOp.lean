/- Arguments opened: which leaf stands at which cell of a type, and that its cell reads as one. Conditions: closed facts on the types. -/
import Derived.Deep.Slices
import Derived.ChangeArms
import Derived.WideShapes
import Derived.KernelRfl
import Derived.WalkKit
namespace Go.Proofs.Ytcllofffbmbmlaa
open Go.RowKit Go.ChangeShapes Go.WideShapes Go.Deep

/-- The plain type that stands at cell j of a type. -/
def leafAt (P : Program) : Nat → TypeId → Nat → Option TypeId
  | 0, _, _ => none
  | n + 1, t, j => match P.underlying t with
    | some (.struct fs) => match fs.toList.find? (fun f => decide (f.offset ≤ j ∧ j < f.offset + P.cellsOf f.type)) with
      | some f => leafAt P n f.type (j - f.offset)
      | none => none
    | some (.int _) => if j = 0 then some t else none
    | some .string => if j = 0 then some t else none
    | some .bool => if j = 0 then some t else none
    | _ => none

section
variable {H : Type} {enc : TypeId × Value → H} {P : Program} {w : World} {base : Nat} {spare : Nat → Bool} {held : Bool}
theorem leaf_sound : ∀ (n : Nat) (t j t' : Nat) (fuel : Nat) (cs : List Value) (x : DataW H × List MemPlace), leafAt P n t j = some t' → DataW.trod enc P w base spare held fuel t cs = some x →
    ∃ c m y, cs[j]? = some c ∧ DataW.trod enc P w base spare held m t' [c] = some y := by
  intro n
  induction n with
  | zero => intro t j t' fuel cs x h; cases h
  | succ n ih =>
    intro t j t' fuel cs x h hx
    unfold leafAt at h
    split at h
    · rename_i fs hu
      split at h
      · rename_i f hf
        have hm := List.mem_of_find?_eq_some hf
        have hp := List.find?_some hf
        simp only [decide_eq_true_eq] at hp
        obtain ⟨k, hk⟩ := List.getElem?_of_mem hm
        obtain ⟨xs, n', _, _, _, hlen, hg⟩ := DataW.trod_struct hu hx
        have hk' : fs[k]? = some f := by simpa using hk
        have hkl : k < xs.length := by
          have := (Array.getElem?_eq_some_iff.1 hk').1
          omega
        have h1 := hg k f hk'
        obtain ⟨c, m, y, hc, hy⟩ := ih _ _ _ _ _ _ h (h1.trans (List.getElem?_eq_getElem hkl))
        refine ⟨c, m, y, ?_, hy⟩
        rw [List.getElem?_take, if_pos (by omega), List.getElem?_drop] at hc
        rw [show f.offset + (j - f.offset) = j by omega] at hc
        exact hc
      · cases h
    · rename_i k hu
      split at h
      · rename_i hj
        cases h
        obtain ⟨n1, rfl, _⟩ := DataW.trod_int hu hx
        exact ⟨_, _, _, by rw [hj]; rfl, hx⟩
      · cases h
    · rename_i hu
      split at h
      · rename_i hj
        cases h
        obtain ⟨n1, rfl, _⟩ := DataW.trod_string hu hx
        exact ⟨_, _, _, by rw [hj]; rfl, hx⟩
      · cases h
    · rename_i hu
      split at h
      · rename_i hj
        cases h
        obtain ⟨n1, rfl, _⟩ := DataW.trod_bool hu hx
        exact ⟨_, _, _, by rw [hj]; rfl, hx⟩
      · cases h
    · cases h
/-- A leaf that is an int. -/
theorem leaf_int {k : IntKind} {n t j t' fuel : Nat} {cs : List Value} {x : DataW H × List MemPlace} (hl : leafAt P n t j = some t') (hu : P.underlying t' = some (.int k)) (hx : DataW.trod enc P w base spare held fuel t cs = some x) :
    ∃ i, cs[j]? = some (.int k i) ∧ (Lit.int k i).wf = true := by
  obtain ⟨c, m, y, hc, hy⟩ := leaf_sound n t j t' fuel cs x hl hx
  obtain ⟨i, hi, _, hw⟩ := DataW.trod_int hu hy
  simp only [List.cons.injEq, and_true] at hi
  exact ⟨i, by rw [hc, hi], hw⟩
theorem leaf_string {n t j t' fuel : Nat} {cs : List Value} {x : DataW H × List MemPlace} (hl : leafAt P n t j = some t') (hu : P.underlying t' = some .string) (hx : DataW.trod enc P w base spare held fuel t cs = some x) :
    ∃ s : ByteArray, cs[j]? = some (.string s) ∧ s.size ≤ maxLen := by
  obtain ⟨c, m, y, hc, hy⟩ := leaf_sound n t j t' fuel cs x hl hx
  obtain ⟨i, hi, _, hw⟩ := DataW.trod_string hu hy
  simp only [List.cons.injEq, and_true] at hi
  exact ⟨i, by rw [hc, hi], hw⟩
theorem leaf_bool {n t j t' fuel : Nat} {cs : List Value} {x : DataW H × List MemPlace} (hl : leafAt P n t j = some t') (hu : P.underlying t' = some .bool) (hx : DataW.trod enc P w base spare held fuel t cs = some x) :
    ∃ b : Bool, cs[j]? = some (.bool b) := by
  obtain ⟨c, m, y, hc, hy⟩ := leaf_sound n t j t' fuel cs x hl hx
  obtain ⟨i, hi, _⟩ := DataW.trod_bool hu hy
  simp only [List.cons.injEq, and_true] at hi
  exact ⟨i, by rw [hc, hi]⟩
/-- A slice argument: nil, or rows whose cells read as their leaves say. -/
theorem open_rows {t e fuel : Nat} {v : Value} {x : DataW H × List MemPlace} (ht : P.underlying t = some (.slice e)) (h : DataW.trod enc P w base spare held fuel t [v] = some x) :
    v = .slice none 0 0 ∨ ∃ (a : Addr) (len cap : Nat), v = .slice (some a) len cap ∧ len ≤ cap ∧ cap ≤ maxLen ∧
      ∀ i, i < len → ∃ (cs : List Value) (m : Nat) (y : DataW H × List MemPlace), (∀ j, j < P.cellsOf e → w.cell? (a.add (i * P.cellsOf e + j)) = cs[j]?) ∧ DataW.trod enc P w base spare held m e cs = some y := by
  rcases open_slice ht h with ⟨h0, _⟩ | ⟨a, len, cap, m, n, D, Pl, hcs, _, hl, hm, hmm, _, hi⟩
  · left; simpa using h0
  · right
    simp only [List.cons.injEq, and_true] at hcs
    refine ⟨a, len, cap, hcs, hl, hm, fun i hilt => ?_⟩
    obtain ⟨cs, hc, ht'⟩ := hi i (by rw [hmm]; split <;> omega)
    obtain ⟨_, hcl, hat⟩ := World.cells?_some hc
    refine ⟨cs, n, _, fun j hj => ?_, ht'⟩
    rw [← Go.Deep.add_add, hat j hj]
end

theorem arr5 {cs : Array Value} {a b c d e : Value} (h : cs.size = 5) (h0 : cs.toList[0]? = some a) (h1 : cs.toList[1]? = some b) (h2 : cs.toList[2]? = some c) (h3 : cs.toList[3]? = some d) (h4 : cs.toList[4]? = some e) : cs = #[a, b, c, d, e] := by
  obtain ⟨l⟩ := cs
  match l, h with
  | [x0, x1, x2, x3, x4], _ => simp_all
theorem arr2 {cs : Array Value} {a b : Value} (h : cs.size = 2) (h0 : cs.toList[0]? = some a) (h1 : cs.toList[1]? = some b) : cs = #[a, b] := by
  obtain ⟨l⟩ := cs
  match l, h with
  | [x0, x1], _ => simp_all

end Go.Proofs.Ytcllofffbmbmlaa
