/- undo: maps.Keys over a table. No condition. -/
import Derived.Test.YtcnocfboklhjnaaIt
namespace Go.Proofs.Ytcnocfboklhjnaa
open Go.RowKit Go.Shelf
attribute [local go_sem] Oper.semAt_some

def unk : Value → Int × Int
  | .agg cs => (intOf (cs.toList.getD 0 (.int .i64 0)), intOf (cs.toList.getD 1 (.int .i64 0)))
  | _ => (0, 0)
theorem unk_kvp (p : Int × Int) : unk (kvp p) = p := by simp [unk, intOf]
theorem perm_kvp {a b : List (Int × Int)} (h : (a.map kvp).Perm (b.map kvp)) : a.Perm b := by
  have := h.map unk
  simpa [List.map_map, Function.comp_def, unk_kvp] using this
theorem keys1 (l bx m : Nat) (al : List ((Int × Int) × Value)) (J : List (Int × Int) → World → Prop) (w : World)
    (hb : w.cell? ⟨bx, 0, none⟩ = some (.map (some m))) (hm : MapIs kvp w m al)
    (hJ : ∀ ks W W', J ks W → Same (· = w.heap.size) W W' → J ks W')
    (hy : ∀ ks k W, J ks W → ks.length < al.length → w.heap.size < W.heap.size → YieldAt Fence.wide 0 Try.prog l #[kvp k] W fun e W' =>
      e = .returned (.bool true) ∧ J (ks ++ [k]) W' ∧ W.heap.size ≤ W'.heap.size ∧ W'.heap[w.heap.size]? = W.heap[w.heap.size]? ∧ W'.heap[m]? = W.heap[m]?)
    (h0 : J [] w) :
    Calls Try.prog 57 #[.func (.yield l) #[] #[], .pointer (some ⟨bx, 0, none⟩)] w fun e W' => (∃ v, e = .returned v) ∧ ∃ ks, ks.Perm (al.map (·.1)) ∧ J ks W' := by
  obtain ⟨es, clk, hmp, hst, hal⟩ := hm
  have hlm := (Array.getElem?_eq_some_iff.1 hmp).1
  have hkeys : es.toList.map (·.key) = (al.map (·.1)).map kvp := by
    have := congrArg (List.map Prod.fst) hal
    simpa [List.map_map, Function.comp_def] using this
  have hlen : es.size = al.length := by have := congrArg List.length hal; simpa using this
  have hrg := run_range_map (P := Try.prog) w 55 58 3 m es clk Try.underlying55 hmp
  have hI0 : IterAt (w.alloc (.mapIter (some m) clk #[] clk)) w.heap.size m es clk #[] := ⟨World.alloc_heap_new w _, (Below.heap_alloc _ _ _ hlm).trans hmp⟩
  have hJ0 := hJ [] w _ h0 ((same_alloc (W := w) (.mapIter (some m) clk #[] clk)).mono (fun _ _ h => h.elim))
  refine (callsIn_wide (n := 0)).1 ?_
  refine callsIn_of_wp Try.func57 rfl trivial ?_ rfl
  simp only [Try.ntmps57, List.size_toArray, List.length_cons, List.length_nil, Nat.reduceAdd, Nat.reduceSub, Array.replicate_succ, Array.replicate_zero, List.push_toArray, List.append_toArray, List.nil_append, List.cons_append]
  gi_wp2
  gi_loopw [3] (fun _ wr => ∃ (seen : Array Nat) (ks : List (Int × Int)), w.heap.size < wr.heap.size ∧ IterAt wr w.heap.size m es clk seen ∧ Came es seen (ks.map kvp) ∧ J ks wr)
    (fun _ wr => match wr.heap[w.heap.size]? with | some (.mapIter _ _ seen _) => (leftOf es seen).size | _ => 0)
  case atStart => exact ⟨#[], [], by simp, hI0, Came.start es, hJ0⟩
  case round =>
    obtain ⟨seen, ks, hlt, hI, hC, hJs⟩ := hrel
    rcases next_is (P := Try.prog) hst hI (by omega) 0 with ⟨hz, hnx⟩ | ⟨e, W1, he, hnx, hs1, hz1, hI1⟩
    · have hperm := hC.done hst hz
      rw [hkeys] at hperm
      gi_wp2
      go_end0
      exact ⟨⟨_, rfl⟩, ks, perm_kvp hperm, hJs⟩
    · obtain ⟨he1, he2⟩ := leftOf_mem.1 he
      have hen := entry_is (P := Try.prog) hst hI1 he1
      have hC1 := hC.step he
      have hmeas := leftOf_step he
      have hmw := hI.it
      obtain ⟨p, hp⟩ : ∃ p : Int × Int, e.key = kvp p := by
        have : e.key ∈ es.toList.map (·.key) := List.mem_map.2 ⟨e, he1, rfl⟩
        rw [hkeys] at this
        obtain ⟨p, _, hp⟩ := List.mem_map.1 this
        exact ⟨p, hp.symm⟩
      have hlk : ks.length < al.length := by
        have := hC1.len
        simp at this
        omega
      rw [hp] at hC1 hen hnx
      have hC2 : Came es (seen.push e.born) ((ks ++ [p]).map kvp) := by simpa using hC1
      have hJ1 := hJ _ _ _ hJs hs1
      have hsA : Same (fun _ => False) W1 (W1.alloc (.cells #[.int .i64 p.1, .int .i64 p.2] 58)) := same_alloc _
      have hJ2 := hJ _ _ _ hJ1 (hsA.mono (fun _ _ h => h.elim))
      have hgr : w.heap.size < (W1.alloc (.cells #[.int .i64 p.1, .int .i64 p.2] 58)).heap.size := by simp; omega
      have hI2 : IterAt (W1.alloc (.cells #[.int .i64 p.1, .int .i64 p.2] 58)) w.heap.size m es clk (seen.push e.born) := ⟨hsA.block hI1.it (by simp), hsA.block hI1.mp (by simp)⟩
      obtain ⟨fn, tmps, assign, body, hye, hR⟩ := hy ks p _ hJ2 hlk hgr
      clear hs1 hsA
      gi_wp2
      refine hR.mono ?_
      rintro e W3 ⟨rfl, hJ3, hz3, hr3, hm3⟩
      gi_wp2
      go_roundw
      case rel => exact ⟨_, _, by omega, ⟨hr3.trans hI2.it, hm3.trans hI2.mp⟩, hC2, hJ3⟩
      case measure => rw [hr3.trans hI2.it, hmw]; exact hmeas
end Go.Proofs.Ytcnocfboklhjnaa
