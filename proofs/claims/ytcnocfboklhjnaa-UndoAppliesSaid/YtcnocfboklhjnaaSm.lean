/- undo: lists that are the same; the law's own small functions. Conditions: the lists' lengths. -/
import Derived.Test.YtcnocfboklhjnaaAx
namespace Go.Proofs.Ytcnocfboklhjnaa
open Go.RowKit Go.Shelf
attribute [local go_sem] Oper.semAt_some

@[go_sem] theorem Try.stood45 : Try.prog.stoodInHeld 45 = false := by kernel_rfl
@[go_sem] theorem Try.guard45 : Try.prog.eqGuardType Try.prog.depth 45 = false := by kernel_rfl
theorem eqIn45 (d : Nat) (w : World) (a b c a' b' c' : Int) : (Op.equalIn (d + 2) 45 (.agg #[.int .i64 a, .int .i64 b, .int .i64 c]) (.agg #[.int .i64 a', .int .i64 b', .int .i64 c'])).run Try.prog w = .ok (a == a' && (b == b' && c == c')) w := by
  rw [run_equalIn_struct w (d + 1) 45 _ _ (by simp [Program.fieldsOf, Try.underlying45]) Try.stood45]
  simp only [Program.fieldsOf, Try.underlying45]
  cases h1 : (a == a') <;> cases h2 : (b == b') <;> cases h3 : (c == c') <;> simp [Op.eqFields, go_sem, Try.underlying3, h1, h2, h3]
theorem neq45 (w : World) (t : Tri) : (binOp .neq 45 (tv t) (tv t)).run Try.prog w = .ok (.bool false) w := by
  rw [run_neq_struct, show (10000 : Nat) = 9998 + 2 from rfl, eqIn45]
  simp
set_option maxHeartbeats 1600000 in
theorem same_any (w : World) (a1 a2 : Option Addr) (c1 c2 : Nat) (l : List Tri) (h1 : TriR w a1 l) (h2 : TriR w a2 l) (hl : l.length ≤ maxLen) :
    Calls Try.prog 17 #[.slice a1 l.length c1, .slice a2 l.length c2] w fun e w' => e = .returned (.bool true) ∧ Same (fun _ => False) w w' := by
  have hn2 : l.length ≤ 9223372036854775807 := by unfold maxLen at hl; omega
  obtain ⟨n, hn⟩ : ∃ n, n = l.length := ⟨_, rfl⟩
  rw [← hn] at hn2 ⊢
  have H1 := Lib.hid h1
  have H2 := Lib.hid h2
  have HN := Lib.hid hn
  clear h1 h2 hn hl
  go_enter Try.func17, Try.ntmps17
  go_wp2
  go_loopw [5] (fun v5 wx => ∃ (i : Nat) (W : World), W = wx ∧ i ≤ n ∧ v5 = .int .i64 i ∧ Same (fun _ => False) w W) (fun v5 _ => n - (intOf v5).toNat)
  case atStart => exact ⟨0, _, rfl, by omega, rfl, Same.refl _ _⟩
  case round =>
    obtain ⟨i, W, hW, hi, rfl, hs⟩ := hrel
    subst hW
    by_cases hin : i < n
    · have hii : (i : Int) < n := by omega
      obtain ⟨t, ht⟩ : ∃ x, l[i]? = some x := ⟨_, List.getElem?_eq_getElem (by have := HN.out; omega)⟩
      obtain ⟨x, rfl, hx⟩ := H1.out.same0 hs i t ht
      obtain ⟨y, rfl, hy⟩ := H2.out.same0 hs i t ht
      have x0 := hx.c0
      have x1 := hx.c1
      have x2 := hx.c2
      have y0 := hy.c0
      have y1 := hy.c1
      have y2 := hy.c2
      have hneq : ∀ W, (binOp .neq 45 (.agg #[.int .i64 t.id, .int .i64 t.num, .int .i64 t.n]) (.agg #[.int .i64 t.id, .int .i64 t.num, .int .i64 t.n])).run Try.prog W = .ok (.bool false) W := fun W => neq45 W t
      have HS := Lib.hid hs
      clear hs ht hx hy
      go_wp2
      go_quiet (fail)
      rename_i nq
      go_wp2
      go_round
      case rel => exact ⟨i + 1, _, rfl, by omega, by go_num, HS.out.drewN nq⟩
      case measure => simp [intOf]; omega
    · obtain rfl : i = n := by omega
      have HS := Lib.hid hs
      clear hs
      go_wp2
      go_ret
      exact ⟨rfl, HS.out⟩
set_option maxHeartbeats 1600000 in
theorem ints_any (w : World) (a1 a2 : Option Addr) (c1 c2 : Nat) (l : List Int) (h1 : IntR w a1 l) (h2 : IntR w a2 l) (hl : l.length ≤ maxLen) :
    Calls Try.prog 20 #[.slice a1 l.length c1, .slice a2 l.length c2] w fun e w' => e = .returned (.bool true) ∧ Same (fun _ => False) w w' := by
  have hn2 : l.length ≤ 9223372036854775807 := by unfold maxLen at hl; omega
  obtain ⟨n, hn⟩ : ∃ n, n = l.length := ⟨_, rfl⟩
  rw [← hn] at hn2 ⊢
  have H1 := Lib.hid h1
  have H2 := Lib.hid h2
  have HN := Lib.hid hn
  clear h1 h2 hn hl
  go_enter Try.func20, Try.ntmps20
  go_wp2
  go_loopw [5] (fun v5 wx => ∃ (i : Nat) (W : World), W = wx ∧ i ≤ n ∧ v5 = .int .i64 i ∧ Same (fun _ => False) w W) (fun v5 _ => n - (intOf v5).toNat)
  case atStart => exact ⟨0, _, rfl, by omega, rfl, Same.refl _ _⟩
  case round =>
    obtain ⟨i, W, hW, hi, rfl, hs⟩ := hrel
    subst hW
    by_cases hin : i < n
    · have hii : (i : Int) < n := by omega
      obtain ⟨t, ht⟩ : ∃ x, l[i]? = some x := ⟨_, List.getElem?_eq_getElem (by have := HN.out; omega)⟩
      obtain ⟨b, o, rfl, hx⟩ := H1.out.same0 hs i t ht
      obtain ⟨b', o', rfl, hy⟩ := H2.out.same0 hs i t ht
      have HS := Lib.hid hs
      clear hs ht
      go_wp2
      go_quiet (fail)
      rename_i nq
      go_wp2
      go_round
      case rel => exact ⟨i + 1, _, rfl, by omega, by go_num, HS.out.drewN nq⟩
      case measure => simp [intOf]; omega
    · obtain rfl : i = n := by omega
      have HS := Lib.hid hs
      clear hs
      go_wp2
      go_ret
      exact ⟨rfl, HS.out⟩
theorem few_any (w : World) (o : Option Addr) (c : Nat) (ops : List Tri) (hl : ops.length ≤ maxLen) (hc : ops.length ≤ c) :
    Calls Try.prog 13 #[.slice o ops.length c] w fun e w' => e = .returned (.slice o (ops.take 12).length c) ∧ Same (fun _ => False) w w' := by
  have hn2 : ops.length ≤ 9223372036854775807 := by unfold maxLen at hl; omega
  rw [List.length_take]
  generalize ops.length = n at *
  go_enter Try.func13, Try.ntmps13
  go_wp2
  go_ret
  refine ⟨?_, Same.refl _ _⟩
  rw [show (min (n : Int) 12).toNat = min 12 n by omega]
  rfl
theorem flat3_at : ∀ (l : List Tri) (i : Nat) (t : Tri), l[i]? = some t → (flat3 l)[i * 3]? = some (.int .i64 t.id) ∧ (flat3 l)[i * 3 + 1]? = some (.int .i64 t.num) ∧ (flat3 l)[i * 3 + 2]? = some (.int .i64 t.n)
  | [], i, t, h => by simp at h
  | a :: l, 0, t, h => by
    simp only [List.getElem?_cons_zero, Option.some.injEq] at h
    subst h
    exact ⟨rfl, rfl, rfl⟩
  | a :: l, i + 1, t, h => by
    have ih := flat3_at l i t (by simpa using h)
    have e : flat3 (a :: l) = .int .i64 a.id :: .int .i64 a.num :: .int .i64 a.n :: flat3 l := rfl
    rw [e, show (i + 1) * 3 = i * 3 + 1 + 1 + 1 by omega]
    simpa using ih
theorem flat3_len (l : List Tri) : (flat3 l).length = l.length * 3 := by
  induction l with
  | nil => rfl
  | cons a l ih =>
    have e : flat3 (a :: l) = .int .i64 a.id :: .int .i64 a.num :: .int .i64 a.n :: flat3 l := rfl
    rw [e]
    simp only [List.length_cons, ih]
    omega
theorem flat3_one (l : List Tri) : ∀ u ∈ flat3 l, u.oneCell' = true := by
  intro u hu
  simp only [flat3, List.mem_flatMap] at hu
  obtain ⟨t, _, hu⟩ := hu
  simp at hu
  rcases hu with rfl | rfl | rfl <;> rfl
theorem add_off (x : Addr) (k : Nat) : (x.add k).off = x.off + k ∧ (x.add k).block = x.block := by
  unfold Addr.add
  split
  · rename_i h; subst h; exact ⟨rfl, rfl⟩
  · exact ⟨rfl, rfl⟩
theorem add_pos (x : Addr) {k : Nat} (h : 0 < k) : x.add k = ⟨x.block, x.off + k, none⟩ := by
  unfold Addr.add
  rw [if_neg (by omega)]
theorem TriR.cells {w : World} {x : Addr} {l : List Tri} (h : TriR w (some x) l) : ∀ j u, (flat3 l)[j]? = some u → w.cell? (x.add j) = some u := by
  intro j u hj
  have hlt := (List.getElem?_eq_some_iff.1 hj).1
  rw [flat3_len] at hlt
  obtain ⟨t, ht⟩ : ∃ t, l[j / 3]? = some t := ⟨_, List.getElem?_eq_getElem (by omega)⟩
  obtain ⟨f0, f1, f2⟩ := flat3_at l _ t ht
  obtain ⟨y, hy, hc⟩ := h _ t ht
  cases hy
  have c0 := hc.c0
  have c1 := hc.c1
  have c2 := hc.c2
  rw [(add_off x _).1, (add_off x _).2] at c1 c2
  rcases (by omega : j = j / 3 * 3 ∨ j = j / 3 * 3 + 1 ∨ j = j / 3 * 3 + 2) with e | e | e
  · rw [e] at hj ⊢
    rw [f0] at hj
    cases hj
    exact c0
  · rw [e] at hj ⊢
    rw [f1] at hj
    cases hj
    rw [add_pos _ (by omega)]
    exact c1
  · rw [e] at hj ⊢
    rw [f2] at hj
    cases hj
    rw [add_pos _ (by omega)]
    exact c2
theorem own_tri {w : World} {base : Nat} {e : TypeId} {v : Value} {l : List Tri} (h : w.ownsRow base e 3 v l.length (flat3 l)) :
    ∃ ao cap, v = .slice ao l.length cap ∧ TriR w ao l ∧ (∀ x, ao = some x → base ≤ x.block ∧ x.block < w.heap.size) ∧ (ao = none → l = []) ∧ l.length ≤ cap := by
  rcases h.2 with ⟨rfl, h0⟩ | ⟨g, cap, cur, rfl, hb, hg, hnc, hcm, hcs, ht⟩
  · have : l = [] := List.length_eq_zero_iff.1 h0
    subst this
    exact ⟨none, 0, rfl, fun i t hi => by simp at hi, fun x hx => (by cases hx), fun _ => rfl, Nat.le_refl _⟩
  · refine ⟨some ⟨g, 0, none⟩, cap, rfl, fun i t hi => ⟨_, rfl, ?_⟩, fun x hx => ?_, fun h => (by cases h), hnc⟩
    · obtain ⟨f0, f1, f2⟩ := flat3_at l i t hi
      have hi2 := (List.getElem?_eq_some_iff.1 hi).1
      have e := add_off ⟨g, 0, none⟩ (i * 3)
      have c0 := h.cellAt (i * 3) (by omega)
      have c1 := h.cellAt (i * 3 + 1) (by omega)
      have c2 := h.cellAt (i * 3 + 2) (by omega)
      rw [f0] at c0
      rw [f1] at c1
      rw [f2] at c2
      refine ⟨?_, ?_, ?_⟩
      · have : (⟨g, 0, none⟩ : Addr).add (i * 3) = ⟨g, i * 3, none⟩ := by
          unfold Addr.add
          split
          · rename_i h; rw [h]
          · simp
        rw [this]; exact c0
      · rw [e.1, e.2]; simp only [Nat.zero_add]; exact c1
      · rw [e.1, e.2]; simp only [Nat.zero_add]; exact c2
    · cases hx
      exact ⟨hb, (Array.getElem?_eq_some_iff.1 hg).1⟩
theorem own_int {w : World} {base : Nat} {v : Value} {l : List Int} (h : w.ownsRow base 3 1 v l.length (ints l)) :
    ∃ ao cap, v = .slice ao l.length cap ∧ IntR w ao l ∧ (∀ x, ao = some x → base ≤ x.block ∧ x.block < w.heap.size) ∧ (ao = none ∨ ∃ b k, ao = some ⟨b, k, none⟩) ∧ (ao = none → l = []) ∧ l.length ≤ cap := by
  rcases h.2 with ⟨rfl, h0⟩ | ⟨g, cap, cur, rfl, hb, hg, hnc, hcm, hcs, ht⟩
  · have : l = [] := List.length_eq_zero_iff.1 h0
    subst this
    exact ⟨none, 0, rfl, fun i t hi => by simp at hi, fun x hx => (by cases hx), .inl rfl, fun _ => rfl, Nat.le_refl _⟩
  · refine ⟨some ⟨g, 0, none⟩, cap, rfl, fun i t hi => ⟨g, 0, rfl, ?_⟩, fun x hx => ?_, .inr ⟨g, 0, rfl⟩, fun h => (by cases h), hnc⟩
    · have hi2 := (List.getElem?_eq_some_iff.1 hi).1
      have c0 := h.cellAt i (by omega)
      rw [List.getElem?_map, hi] at c0
      rw [Nat.zero_add]
      exact c0
    · cases hx
      exact ⟨hb, (Array.getElem?_eq_some_iff.1 hg).1⟩
theorem lit_tri (w : World) (e : TypeId) (l : List Tri) (hl : l.length ≤ maxLen) : TriR (w.alloc (.cells (flat3 l).toArray e)) (some ⟨w.heap.size, 0, none⟩) l := by
  have h := World.ownsRow_lit (base := 0) (e := e) (size := 3) w (flat3 l).toArray l.length (Nat.zero_le _) hl (by simp [flat3_len])
  rw [List.toList_toArray] at h
  obtain ⟨ao, cap, hv, ht, -⟩ := own_tri h
  cases hv
  exact ht
theorem lit_int (w : World) (l : List Int) (hl : l.length ≤ maxLen) : IntR (w.alloc (.cells (ints l).toArray 3)) (some ⟨w.heap.size, 0, none⟩) l := by
  have h := World.ownsRow_lit (base := 0) (e := 3) (size := 1) w (ints l).toArray l.length (Nat.zero_le _) hl (by simp)
  rw [List.toList_toArray] at h
  obtain ⟨ao, cap, hv, ht, -⟩ := own_int h
  cases hv
  exact ht
theorem TriR.take {w : World} {a : Option Addr} {l : List Tri} (h : TriR w a l) (k : Nat) : TriR w a (l.take k) := fun i t hi => h i t (by
  rw [List.getElem?_take] at hi
  split at hi
  · exact hi
  · cases hi)
theorem IntR.take {w : World} {a : Option Addr} {l : List Int} (h : IntR w a l) (k : Nat) : IntR w a (l.take k) := fun i t hi => h i t (by
  rw [List.getElem?_take] at hi
  split at hi
  · exact hi
  · cases hi)
end Go.Proofs.Ytcnocfboklhjnaa
