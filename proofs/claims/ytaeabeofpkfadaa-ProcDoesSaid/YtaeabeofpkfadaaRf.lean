/- proc: the reference's table; at, user, Right, New, Kill, Sleep. Conditions: its form. -/
import Derived.Test.YtaeabeofpkfadaaZw
import Derived.Laws.OwnMore
namespace Go.Proofs.Ytaeabeofpkfadaa
open Go.RowKit Go.Shelf
attribute [local go_sem] Oper.semAt_some

/-- The reference's table lies at r, its processes in a row at g. -/
structure RAt (s : Nat) (w : World) (r g cap : Nat) (L : List Pr) (last : Int) : Prop where
  c0 : w.cell? ⟨r, 0, none⟩ = some (.slice (some ⟨g, 0, none⟩) L.length cap)
  z0 : w.frozen? ⟨r, 0, none⟩ = false
  c1 : w.cell? ⟨r, 1, none⟩ = some (.int .i64 last)
  z1 : w.frozen? ⟨r, 1, none⟩ = false
  row : w.ownsRow s 34 8 (.slice (some ⟨g, 0, none⟩) L.length cap) L.length (flat L)
  gr : g ≠ r
  len : L.length ≤ 16
theorem RAt.same {S : Nat → Prop} {s : Nat} {w w' : World} {r g cap : Nat} {L : List Pr} {last : Int} (h : RAt s w r g cap L last) (hs : Same S w w') (h1 : ¬ S r) (h2 : ¬ S g) : RAt s w' r g cap L last :=
  ⟨hs.cell h.c0 h1, hs.unfrozen h.c0 h.z0 h1, hs.cell h.c1 h1, hs.unfrozen h.c1 h.z1 h1, ownsRow_same h.row hs (fun gx hgx => (show g = gx by simpa [Value.ownBlock] using hgx) ▸ h2), h.gr, h.len⟩
theorem RAt.same0 {s : Nat} {w w' : World} {r g cap : Nat} {L : List Pr} {last : Int} (h : RAt s w r g cap L last) (hs : Same (fun _ => False) w w') : RAt s w' r g cap L last := h.same hs (fun h => h) (fun h => h)
theorem RAt.lt {s : Nat} {w : World} {r g cap : Nat} {L : List Pr} {last : Int} (h : RAt s w r g cap L last) : r < w.heap.size ∧ g < w.heap.size ∧ s ≤ g :=
  ⟨World.block_lt_of_cell? _ _ h.c0, (ownsRow_shape h.row rfl).2.1, (ownsRow_shape h.row rfl).1⟩
theorem RAt.at_ {s : Nat} {w : World} {r g cap : Nat} {L : List Pr} {last : Int} (h : RAt s w r g cap L last) {i j : Nat} {p : Pr} {v : Value} (hp : L[i]? = some p) (hv : p.vals[j]? = some v) : w.cell? ⟨g, i * 8 + j, none⟩ = some v ∧ w.frozen? ⟨g, i * 8 + j, none⟩ = false := by
  have h8 : j < 8 := (List.getElem?_eq_some_iff.1 hv).1
  have hi := (List.getElem?_eq_some_iff.1 hp).1
  refine ⟨?_, h.row.frozenAt _⟩
  rw [h.row.cellAt (i * 8 + j) (by omega)]
  exact flat_at hp hv
theorem flat_set : ∀ {L : List Pr} {i j : Nat} {p p' : Pr} {v : Value}, L[i]? = some p → j < 8 → p'.vals = p.vals.set j v → (flat L).set (i * 8 + j) v = flat (L.set i p')
  | [], i, j, p, p', v, h, _, _ => by simp at h
  | q :: L, 0, j, p, p', v, h, hj, hv => by
    simp only [List.getElem?_cons_zero, Option.some.injEq] at h
    subst h
    have h8 : q.vals.length = 8 := rfl
    simp only [flat, List.flatMap_cons, List.set_cons_zero]
    rw [hv, List.set_append_left _ _ (by omega)]
    simp
  | q :: L, i + 1, j, p, p', v, h, hj, hv => by
    have h8 : q.vals.length = 8 := rfl
    have ih := flat_set (L := L) (i := i) (j := j) (p := p) (p' := p') (v := v) (by simpa using h) hj hv
    simp only [flat, List.flatMap_cons, List.set_cons_succ] at ih ⊢
    rw [List.set_append_right _ _ (by omega), show (i + 1) * 8 + j - q.vals.length = i * 8 + j by omega, ih]
theorem RAt.store {s : Nat} {w : World} {r g cap : Nat} {L : List Pr} {last : Int} (h : RAt s w r g cap L last) {i j : Nat} {p p' : Pr} {v : Value} (hp : L[i]? = some p) (hj : j < 8) (hv : p'.vals = p.vals.set j v) : RAt s (w.setCell ⟨g, i * 8 + j, none⟩ v) r g cap (L.set i p') last := by
  have sS : Same (· = g) w (w.setCell ⟨g, i * 8 + j, none⟩ v) := (Same.refl (· = g) _).setCell _ (.inr rfl)
  have hgr := h.gr
  refine ⟨?_, sS.unfrozen h.c0 h.z0 (by simp only; omega), sS.cell h.c1 (by simp only; omega), sS.unfrozen h.c1 h.z1 (by simp only; omega), ?_, h.gr, by rw [List.length_set]; exact h.len⟩
  · rw [List.length_set]; exact sS.cell h.c0 (by simp only; omega)
  · rw [List.length_set, ← flat_set hp hj hv]
    exact (h.row.stored _ _).1
/-- The place of a process. -/
def atI (L : List Pr) (pid : Int) : Int := match L.findIdx? (fun p => decide (p.pid = pid)) with
  | some i => i
  | none => -1
theorem at_cases (L : List Pr) (pid : Int) : (lget L pid = none ∧ atI L pid = -1) ∨ ∃ (i : Nat) (p : Pr), lget L pid = some p ∧ L[i]? = some p ∧ atI L pid = (i : Int) := by
  unfold atI lget
  cases h : L.findIdx? (fun p => decide (p.pid = pid)) with
  | none =>
    left
    rw [List.findIdx?_eq_none_iff] at h
    refine ⟨?_, rfl⟩
    rw [List.find?_eq_none]
    intro x hx
    simpa using h x hx
  | some i =>
    right
    have h1 := List.findIdx?_eq_some_iff_getElem.1 h
    obtain ⟨hi, h2, h3⟩ := h1
    refine ⟨i, L[i], ?_, List.getElem?_eq_getElem hi, rfl⟩
    rw [List.find?_eq_some_iff_getElem]
    exact ⟨h2, i, hi, rfl, fun j hj => by simpa using h3 j hj⟩
theorem at_none {L : List Pr} {pid : Int} (h : atI L pid = -1) : ∀ (i : Nat) (p : Pr), L[i]? = some p → p.pid ≠ pid := by
  intro i p hp e
  unfold atI at h
  cases hf : L.findIdx? (fun p => decide (p.pid = pid)) with
  | none =>
    rw [List.findIdx?_eq_none_iff] at hf
    have := hf p (List.mem_of_getElem? hp)
    simp [e] at this
  | some k => rw [hf] at h; simp at h
theorem at_some {L : List Pr} {pid : Int} {k : Nat} (h : atI L pid = (k : Int)) : (∀ (i : Nat) (p : Pr), i < k → L[i]? = some p → p.pid ≠ pid) ∧ ∃ p, L[k]? = some p ∧ p.pid = pid := by
  unfold atI at h
  cases hf : L.findIdx? (fun p => decide (p.pid = pid)) with
  | none => rw [hf] at h; simp at h
  | some i =>
    rw [hf] at h
    obtain rfl : i = k := by have h' : (i : Int) = k := h; omega
    obtain ⟨hi, h2, h3⟩ := List.findIdx?_eq_some_iff_getElem.1 hf
    refine ⟨fun j p hj hp e => ?_, L[i], List.getElem?_eq_getElem hi, by simpa using h2⟩
    obtain ⟨hj2, e2⟩ := List.getElem?_eq_some_iff.1 hp
    have := h3 j hj
    rw [e2] at this
    simp [e] at this
set_option maxHeartbeats 1600000 in
theorem at_any {s : Nat} {w : World} {r g cap : Nat} {L : List Pr} {last : Int} (h : RAt s w r g cap L last) (pid : Int) :
    Calls Try.prog 46 #[.pointer (some ⟨r, 0, none⟩), .int .i64 pid] w fun e w' => e = .returned (.int .i64 (atI L pid)) ∧ w' = w := by
  have hc0 := h.c0
  have hl := h.len
  have H := Lib.hid h
  clear h
  obtain ⟨n, hn⟩ : ∃ n, n = L.length := ⟨_, rfl⟩
  rw [← hn] at hc0
  rcases at_cases L pid with ⟨-, h1⟩ | ⟨k, p0, -, -, h1⟩
  · have hno := Lib.hid (at_none h1)
    rw [h1]
    clear h1
    go_enter Try.func46, Try.ntmps46
    go_wp2
    go_loopw [5] (fun v5 wr => ∃ i : Nat, i ≤ n ∧ v5 = .int .i64 i ∧ w = wr) (fun v5 _ => n - (intOf v5).toNat)
    case atStart => exact ⟨0, by omega, rfl, rfl⟩
    case round =>
      obtain ⟨i, hi, rfl, rfl⟩ := hrel
      by_cases hin : i < n
      · have hii : (i : Int) < n := by omega
        obtain ⟨p, hp⟩ : ∃ p, L[i]? = some p := ⟨_, List.getElem?_eq_getElem (by omega)⟩
        have d0 : w.cell? ⟨g, i * 8, none⟩ = some (.int .i64 p.pid) := (H.out.at_ hp (j := 0) rfl).1
        have hne : (p.pid == pid) = false := by simpa using hno.out i p hp
        clear hp
        go_wp2
        go_round
        case rel => exact ⟨i + 1, by omega, by go_num, trivial⟩
        case measure => simp [intOf]; omega
      · obtain rfl : i = n := by omega
        go_wp2
        go_ret
        exact ⟨rfl, rfl⟩
  · obtain ⟨hno, p1, hp1, he1⟩ := at_some h1
    have HNO := Lib.hid hno
    rw [h1]
    have hkn : k < n := by have := (List.getElem?_eq_some_iff.1 hp1).1; omega
    have d1 : w.cell? ⟨g, k * 8, none⟩ = some (.int .i64 pid) := by rw [← he1]; exact (H.out.at_ hp1 (j := 0) rfl).1
    clear h1 hno hp1 he1
    go_enter Try.func46, Try.ntmps46
    go_wp2
    go_loopw [5] (fun v5 wr => ∃ i : Nat, i ≤ k ∧ v5 = .int .i64 i ∧ w = wr) (fun v5 _ => n - (intOf v5).toNat)
    case atStart => exact ⟨0, by omega, rfl, rfl⟩
    case round =>
      obtain ⟨i, hi, rfl, rfl⟩ := hrel
      have hii : (i : Int) < n := by omega
      by_cases hik : i < k
      · obtain ⟨p, hp⟩ : ∃ p, L[i]? = some p := ⟨_, List.getElem?_eq_getElem (by omega)⟩
        have d0 : w.cell? ⟨g, i * 8, none⟩ = some (.int .i64 p.pid) := (H.out.at_ hp (j := 0) rfl).1
        have hne : (p.pid == pid) = false := by simpa using HNO.out i p hik hp
        clear hp
        go_wp2
        go_round
        case rel => exact ⟨i + 1, by omega, by go_num, trivial⟩
        case measure => simp [intOf]; omega
      · obtain rfl : i = k := by omega
        go_wp2
        go_ret
        exact ⟨rfl, rfl⟩
end Go.Proofs.Ytaeabeofpkfadaa
