/- proc: the iterator over all processes. Conditions: the table's form, kept by each round. -/
import Derived.Test.YtaeabeofpkfadaaG
import Derived.Deep.QuietTactic
import Derived.BigQuiet
import Derived.Sort.QuietTacIn
import Derived.Sort.BigQuietIn
namespace Go.Proofs.Ytaeabeofpkfadaa
open Go.RowKit Go.Shelf
attribute [local go_sem] Oper.semAt_some

theorem all_any (w : World) (t : Option Addr) : Calls Try.prog 29 #[.pointer t] w fun e w' => e = .returned (.func (.func 44) #[] #[.pointer (some ⟨w.heap.size, 0, none⟩)]) ∧ w' = w.alloc (.cells #[.pointer t] 24) := by
  go_enter Try.func29, Try.ntmps29
  go_wp2
  go_ret
  exact ⟨rfl, rfl⟩

theorem all_nil1 (l tb : Nat) (w : World) (hb : w.cell? ⟨tb, 0, none⟩ = some (.pointer none)) :
    Calls Try.prog 44 #[.func (.yield l) #[] #[], .pointer (some ⟨tb, 0, none⟩)] w fun e w' => (∃ v, e = .returned v) ∧ w' = w := by
  refine (callsIn_wide (n := 0)).1 ?_
  refine callsIn_of_wp Try.func44 rfl trivial ?_ rfl
  simp only [Try.ntmps44, List.size_toArray, List.length_cons, List.length_nil, Nat.reduceAdd, Nat.reduceSub, Array.replicate_succ, Array.replicate_zero, List.push_toArray, List.append_toArray, List.nil_append, List.cons_append]
  gi_wp2_with fail
  refine CallsIn.mono (callsIn_wide.2 (pids_nil _)) ?_
  rintro e w' ⟨rfl, rfl⟩
  gi_wp2
  gi_loopw [8] (fun p wr => p = .int .i64 0 ∧ wr = w') (fun p _ => 0)
  case atStart => exact ⟨rfl, rfl⟩
  case round =>
    obtain ⟨rfl, rfl⟩ := hrel
    gi_wp2
    refine bodyPost_end (results_none rfl _ _ _) rfl ⟨⟨_, rfl⟩, rfl⟩

set_option maxHeartbeats 1600000 in
theorem all1 (l tb t m : Nat) (L0 : List Pr) (last : Int) (hbd : Bd L0) (hne : L0 ≠ []) (w : World) (hb : w.cell? ⟨tb, 0, none⟩ = some (.pointer (some ⟨t, 0, none⟩))) (hT : TabAt w t m L0 last)
    (J : Nat → World → Prop) (Jx : World → Prop)
    (hJ : ∀ i W, J i W → W.cell? ⟨tb, 0, none⟩ = some (.pointer (some ⟨t, 0, none⟩)) ∧ W.cell? ⟨t, 0, none⟩ = some (.map (some m)) ∧ MapIs kvi W m (alOf L0))
    (hs : ∀ i W W', J i W → Same (fun _ => False) W W' → J i W')
    (hy : ∀ i p W, L0[i]? = some p → w.heap.size ≤ W.heap.size → J i W → YieldAt Fence.wide 0 Try.prog l #[.pointer (some ⟨p.b, 0, none⟩)] W fun e W' =>
      Same (fun k => k < w.heap.size) W W' ∧ ((e = .returned (.bool true) ∧ J (i + 1) W') ∨ (e = .returned (.bool false) ∧ Jx W')))
    (h0 : J 0 w) :
    Calls Try.prog 44 #[.func (.yield l) #[] #[], .pointer (some ⟨tb, 0, none⟩)] w fun e W => (∃ v, e = .returned v) ∧ (J L0.length W ∨ Jx W) := by
  obtain ⟨n, hn⟩ : ∃ n, L0.length = n + 1 := ⟨L0.length - 1, by have := List.length_pos_iff.2 hne; omega⟩
  have hlen := hbd.len
  refine (callsIn_wide (n := 0)).1 ?_
  refine callsIn_of_wp Try.func44 rfl trivial ?_ rfl
  simp only [Try.ntmps44, List.size_toArray, List.length_cons, List.length_nil, Nat.reduceAdd, Nat.reduceSub, Array.replicate_succ, Array.replicate_zero, List.push_toArray, List.append_toArray, List.nil_append, List.cons_append]
  have HT := Lib.hid hT
  have HP := Lib.hid (pids_any hT hbd)
  clear hT
  gi_wp2_with fail
  refine CallsIn.mono (callsIn_wide.2 HP.out) ?_
  rintro e w1 ⟨v, rfl, hrow, -, hs1⟩
  rw [hn] at hrow
  obtain ⟨g, cap, rfl⟩ := own_row_succ hrow
  have HROW := Lib.hid hrow
  have hsz1 := hs1.size
  have hj1 := hs 0 w w1 h0 hs1
  have hgb := (hrow.lt g rfl).1
  clear hrow HP hb h0 hs1
  gi_wp2
  gi_loopw [8] (fun p wr => ∃ i : Nat, i ≤ n + 1 ∧ p = .int .i64 i ∧ J i wr ∧ wr.ownsRow w.heap.size 3 1 (.slice (some ⟨g, 0, none⟩) (n + 1) cap) (n + 1) (pidv L0) ∧ w.heap.size ≤ wr.heap.size) (fun p _ => n + 1 - (intOf p).toNat)
  case atStart => exact ⟨0, by omega, rfl, hj1, HROW.out, hsz1⟩
  case round =>
    obtain ⟨i, hi, rfl, hJi, hrw, hsz⟩ := hrel
    by_cases hlt : i < n + 1
    · obtain ⟨p, hp⟩ : ∃ p, L0[i]? = some p := ⟨_, List.getElem?_eq_getElem (by omega)⟩
      have hc := hrw.cells (g := g) rfl i (.int .i64 p.pid) (by unfold pidv; rw [List.getElem?_map, hp]; rfl)
      rw [show (⟨g, 0, none⟩ : Addr).add i = ⟨g, i, none⟩ by simp [Addr.add]; intro h; exact h.symm] at hc
      obtain ⟨b1, b2, b3⟩ := hJ i wr hJi
      have hlk := lk61n b3 p.pid
      have hget : lget L0 p.pid = some p := by
        have hmem := List.mem_of_getElem? hp
        cases hg : lget L0 p.pid with
        | none => have := List.find?_eq_none.1 hg p hmem; simp at this
        | some q => obtain ⟨q1, q2⟩ := lget_some hg; rw [HT.out.uniq q1 hmem (.inl q2)]
      rw [aget_alOf, hget] at hlk
      simp only [Option.map_some, Option.getD_some] at hlk
      obtain ⟨fn, tmps, assign, body, hye, hR⟩ := hy i p wr hp hsz hJi
      have hii : (i : Int) < n + 1 := by omega
      have HRW := Lib.hid hrw
      have HJI := Lib.hid hJi
      clear hrw hJi b3 hget
      gi_wp2
      refine hR.mono ?_
      rintro e W3 ⟨hs3, ⟨rfl, hJ3⟩ | ⟨rfl, hJx3⟩⟩
      · have hsz3 := hs3.size
        have HR3 := Lib.hid (ownsRow_same HRW.out hs3 (fun k hk h => by cases hk; have h' : g < w.heap.size := h; omega))
        gi_wp2
        go_roundw
        case rel => exact ⟨i + 1, by omega, by go_num, hJ3, HR3.out, by omega⟩
        case measure => simp [intOf]; omega
      · gi_wp2
        refine bodyPost_ret (results_none rfl _ _ _) rfl ⟨⟨_, rfl⟩, .inr hJx3⟩
    · obtain rfl : i = n + 1 := by omega
      have HJI := Lib.hid hJi
      clear hJi hrw
      gi_wp2
      refine bodyPost_end (results_none rfl _ _ _) rfl ⟨⟨_, rfl⟩, .inl ?_⟩
      rw [hn]
      exact HJI.out
end Go.Proofs.Ytaeabeofpkfadaa
