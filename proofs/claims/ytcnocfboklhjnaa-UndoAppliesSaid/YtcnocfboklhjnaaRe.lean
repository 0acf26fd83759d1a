/- undo: Record. No condition. -/
import Derived.Test.YtcnocfboklhjnaaRi
import Derived.Test.YtcnocfboklhjnaaLi
import Derived.Test.YtcnocfboklhjnaaCf
namespace Go.Proofs.Ytcnocfboklhjnaa
open Go.RowKit Go.Shelf
attribute [local go_sem] Oper.semAt_some

def opOf (t : Tri) : Un.Op := ⟨t.id, t.num, !(bits .and .i64 t.n 2 == 0)⟩
theorem ofN_bound {l : List Tri} (h : Un.RightL l) (id num : Int) : -32767 ≤ Un.ofN l id num ∧ Un.ofN l id num ≤ 32767 := by
  by_cases he : ∃ a ∈ l, a.id = id ∧ a.num = num
  · obtain ⟨a, ha, e1, e2⟩ := he
    subst e1; subst e2
    rw [Un.ofN_mem h.asc ha]
    exact ⟨(h.ok a ha).2.2.2.1, (h.ok a ha).2.2.2.2⟩
  · rw [Un.ofN_none (fun a ha e => he ⟨a, ha, e⟩)]
    omega
theorem upd_len (l : List Tri) (x : Tri) : (Un.upd l x).length ≤ l.length + 1 := by
  induction l with
  | nil => unfold Un.upd; split <;> simp
  | cons a l ih =>
    unfold Un.upd
    split
    · simpa using ih
    · split
      · split <;> simp <;> omega
      · split <;> simp
open Classical in
/-- What is recorded: the list, and the number. -/
noncomputable def recS (L : List Tri) (id : Int) (ops : List Tri) : Option (List Tri) × Int :=
  if ¬ Un.Right L ∨ id < 0 ∨ 8 < ops.length then (none, 2)
  else if ∃ t ∈ ops, badOp t = true then (none, 2)
  else match Un.recL id L (ops.map opOf) with
    | none => (none, 132)
    | some l => if 64 < l.length then (none, 101) else (some l, 0)
/-- A list that was made, or nil. -/
def OutL (w' : World) (s : Nat) (v : Value) : Option (List Tri) → Prop
  | none => v = .slice none 0 0
  | some l => w'.ownsRow s 45 3 v l.length (flat3 l)
end Go.Proofs.Ytcnocfboklhjnaa
