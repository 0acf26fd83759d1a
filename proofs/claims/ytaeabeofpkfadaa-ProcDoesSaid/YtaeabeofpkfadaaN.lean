/- proc: New. No condition. -/
import Derived.Test.YtaeabeofpkfadaaK
namespace Go.Proofs.Ytaeabeofpkfadaa
open Go.RowKit Go.Shelf
attribute [local go_sem] Oper.semAt_some

def one (b : Nat) : Pr := ⟨1, 0, 1, 0, 0, ⟨#[]⟩, 0, false, b⟩
set_option maxRecDepth 100000 in
theorem new_any (w : World) : Calls Try.prog 11 #[] w fun e w' => ∃ t m b, e = .returned (.pointer (some ⟨t, 0, none⟩)) ∧ TabAt w' t m [one b] 1 ∧ w.heap.size ≤ t ∧ w.heap.size ≤ m ∧ w.heap.size ≤ b ∧ Same (fun _ => False) w w' := by
  have hmm := @run_makeMap Try.prog
  have hm0 : MapIs kvi ((w.alloc (.map #[] 0)).alloc (.cells #[.int .i64 1, .int .i64 0, .int .i64 1, .int .i64 0, .int .i64 0, .string ⟨#[]⟩, .int .i64 0, .bool false] 34)) w.heap.size [] :=
    MapIs_alloc ⟨#[], 0, World.alloc_heap_new w _, Go.MapKept.stamped_empty 0, rfl⟩ _
  obtain ⟨w3, hrun, r1, r2, r3⟩ := run_mapUpdate_is Try.underlying61 (key_int Try.underlying3) hm0 1 (Value.pointer (some ⟨w.heap.size + 1, 0, none⟩))
  have hpr : PrAt ((w.alloc (.map #[] 0)).alloc (.cells #[.int .i64 1, .int .i64 0, .int .i64 1, .int .i64 0, .int .i64 0, .string ⟨#[]⟩, .int .i64 0, .bool false] 34)) (one (w.heap.size + 1)) := by
    intro i v hv
    have hv' : (#[Value.int .i64 1, .int .i64 0, .int .i64 1, .int .i64 0, .int .i64 0, .string ⟨#[]⟩, .int .i64 0, .bool false] : Array Value)[i]? = some v := by rw [← Array.getElem?_toList]; exact hv
    have hz : (w.alloc (.map #[] 0)).heap.size = w.heap.size + 1 := by simp
    obtain ⟨wA, hwA⟩ : ∃ wA, wA = w.alloc (.map #[] 0) := ⟨_, rfl⟩
    rw [← hwA] at hz ⊢
    have hb : (one (w.heap.size + 1)).b = wA.heap.size := hz.symm
    rw [hb]
    exact ⟨(by simp : _ = _).trans hv', by simp⟩
  have sA : Same (fun _ => False) w ((w.alloc (.map #[] 0)).alloc (.cells #[.int .i64 1, .int .i64 0, .int .i64 1, .int .i64 0, .int .i64 0, .string ⟨#[]⟩, .int .i64 0, .bool false] 34)) := (same_alloc _).alloc _
  have HP := Lib.hid hpr
  have R1 := Lib.hid r1
  have R3 := Lib.hid r3
  have hz3 : w3.heap.size = w.heap.size + 2 := by rw [r2]; simp
  have HZ := Lib.hid hz3
  have SA := Lib.hid sA
  clear hpr r1 r2 r3 hz3 sA hm0
  go_enter Try.func11, Try.ntmps11
  go_wp2
  go_ret
  have hz := HZ.out
  have s4 : Same (fun _ => False) w3 (w3.alloc (.cells #[.map (some w.heap.size), .int .i64 1] 63)) := same_alloc _
  refine ⟨w3.heap.size, w.heap.size, w.heap.size + 1, rfl, ⟨by simp, by simp, by simp, ?_, ?_, List.pairwise_singleton _ _, List.pairwise_singleton _ _, ?_, by omega⟩, by omega, Nat.le_refl _, by omega, ?_⟩
  · exact (R3.out).same s4 (fun h => h)
  · intro p hp
    obtain rfl := List.mem_singleton.1 hp
    exact (HP.out.same R1.out (by show ¬ w.heap.size + 1 = w.heap.size; omega)).same s4 (fun h => h)
  · intro p hp
    obtain rfl := List.mem_singleton.1 hp
    exact ⟨by show w.heap.size + 1 ≠ w3.heap.size; omega, by show w.heap.size + 1 ≠ w.heap.size; omega⟩
  · exact (SA.out.trans' R1.out (fun b hb hbw => by omega)).trans s4
end Go.Proofs.Ytaeabeofpkfadaa
