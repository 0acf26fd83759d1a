/- files: the reference's memory; at, refs, free, Count, Get. Conditions: its form. -/
import Derived.Test.YtcllofffbmbmlaaR
import Derived.Laws.OwnMore
namespace Go.Proofs.Ytcllofffbmbmlaa
open Go.RowKit Go.Shelf
attribute [local go_sem] Oper.semAt_some

def Fr.vals (x : Fr) : List Value := [.int .i64 x.pid, .int .i64 x.fd, .int .i64 x.file, .int .i64 x.kind, .int .i64 x.thing]
def ffl (R : List Fr) : List Value := R.flatMap Fr.vals
theorem ffl_len (R : List Fr) : (ffl R).length = R.length * 5 := by
  induction R with
  | nil => rfl
  | cons x l ih => simp only [ffl, List.flatMap_cons, List.length_append, List.length_cons] at ih ⊢; rw [ih, show x.vals.length = 5 from rfl]; omega
theorem ffl_at : ∀ {R : List Fr} {i j : Nat} {x : Fr} {v : Value}, R[i]? = some x → x.vals[j]? = some v → (ffl R)[i * 5 + j]? = some v
  | [], i, j, x, v, h, _ => by simp at h
  | q :: L, 0, j, x, v, h, hv => by
    simp only [List.getElem?_cons_zero, Option.some.injEq] at h
    subst h
    simp only [ffl, List.flatMap_cons, Nat.zero_mul, Nat.zero_add]
    rw [List.getElem?_append_left (List.getElem?_eq_some_iff.1 hv).1]
    exact hv
  | q :: L, i + 1, j, x, v, h, hv => by
    have h5 : q.vals.length = 5 := rfl
    have ih := ffl_at (R := L) (i := i) (j := j) (x := x) (v := v) (by simpa using h) hv
    simp only [ffl, List.flatMap_cons] at ih ⊢
    rw [List.getElem?_append_right (by omega), show (i + 1) * 5 + j - q.vals.length = i * 5 + j by omega, ih]

/-- The reference lies at r, its rows in a slice. -/
structure RAt (s : Nat) (w : World) (r : Nat) (ao : Option Addr) (cap : Nat) (R : List Fr) (last : Nat) : Prop where
  c0 : w.cell? ⟨r, 0, none⟩ = some (.slice ao R.length cap)
  z0 : w.frozen? ⟨r, 0, none⟩ = false
  c1 : w.cell? ⟨r, 1, none⟩ = some (.int .i64 last)
  z1 : w.frozen? ⟨r, 1, none⟩ = false
  row : w.ownsRow s 75 5 (.slice ao R.length cap) R.length (ffl R)
  sr : w.shape? r = some (51, 2)
  lo : s ≤ r
  len : R.length ≤ 1000
  lst : last ≤ 1000
/-- What the reference's operations may write. -/
def ROwn (s : Nat) (w : World) (b : Nat) : Prop := s ≤ b ∧ ∃ t n, w.shape? b = some (t, n) ∧ (t = 51 ∨ t = 75)
theorem rown_trans {w w1 w2 : World} {s : Nat} (h1 : Same (ROwn s w) w w1) (h2 : Same (ROwn s w1) w1 w2) : Same (ROwn s w) w w2 := by
  refine h1.trans' h2 ?_
  rintro k ⟨hl, t, n, h, ht⟩ hk
  exact ⟨hl, t, n, (h1.shp k hk).symm.trans h, ht⟩
theorem rown_of {w w1 : World} {s : Nat} (h1 : Same (fun _ => False) w w1) : Same (ROwn s w) w w1 := h1.mono (fun _ _ h => h.elim)
theorem RAt.blk {s : Nat} {w : World} {r : Nat} {ao : Option Addr} {cap : Nat} {R : List Fr} {last : Nat} (h : RAt s w r ao cap R last) {g : Nat} (hg : (Value.slice ao R.length cap).ownBlock = some g) : s ≤ g ∧ g < w.heap.size ∧ g ≠ r ∧ ∃ k, w.shape? g = some (75, k) := by
  obtain ⟨h1, h2, k, hk⟩ := ownsRow_shape h.row hg
  exact ⟨h1, h2, ne_sh hk h.sr (by decide), k, hk⟩
theorem RAt.same {S : Nat → Prop} {s : Nat} {w w' : World} {r : Nat} {ao : Option Addr} {cap : Nat} {R : List Fr} {last : Nat} (h : RAt s w r ao cap R last) (hs : Same S w w') (hS : ∀ b, b < w.heap.size → S b → ¬ ROwn s w b) : RAt s w' r ao cap R last := by
  have hr := World.block_lt_of_cell? _ _ h.c0
  have h1 : ¬ S r := fun hh => hS r hr hh ⟨h.lo, _, _, h.sr, .inl rfl⟩
  refine ⟨hs.cell h.c0 h1, hs.unfrozen h.c0 h.z0 h1, hs.cell h.c1 h1, hs.unfrozen h.c1 h.z1 h1, ownsRow_same h.row hs (fun g hg hh => ?_), (hs.shp r hr).trans h.sr, h.lo, h.len, h.lst⟩
  obtain ⟨g1, g2, _, k, hk⟩ := h.blk hg
  exact hS g g2 hh ⟨g1, _, _, hk, .inr rfl⟩
theorem RAt.same0 {s : Nat} {w w' : World} {r : Nat} {ao : Option Addr} {cap : Nat} {R : List Fr} {last : Nat} (h : RAt s w r ao cap R last) (hs : Same (fun _ => False) w w') : RAt s w' r ao cap R last := h.same hs (fun _ _ h => h.elim)
theorem own_nil_or {w : World} {base : Nat} {e : TypeId} {size : Nat} {ao : Option Addr} {n cap : Nat} {xs : List Value} (h : w.ownsRow base e size (.slice ao n cap) n xs) : (ao = none ∧ n = 0 ∧ cap = 0) ∨ ∃ g, ao = some ⟨g, 0, none⟩ := by
  rcases h.2 with ⟨h1, h0⟩ | ⟨g, c, cur, h1, _⟩
  · simp only [Value.slice.injEq] at h1; exact .inl ⟨h1.1, h1.2.1, h1.2.2⟩
  · simp only [Value.slice.injEq] at h1; exact .inr ⟨g, h1.1⟩
theorem RAt.at_ {s : Nat} {w : World} {r : Nat} {ao : Option Addr} {cap : Nat} {R : List Fr} {last : Nat} (h : RAt s w r ao cap R last) {i : Nat} {x : Fr} (hp : R[i]? = some x) : ∃ g, ao = some ⟨g, 0, none⟩ ∧ ∀ j v, x.vals[j]? = some v → w.cell? ⟨g, i * 5 + j, none⟩ = some v := by
  have hi := (List.getElem?_eq_some_iff.1 hp).1
  rcases own_nil_or h.row with ⟨_, h0, _⟩ | ⟨g, rfl⟩
  · omega
  · refine ⟨g, rfl, fun j v hv => ?_⟩
    have h5 : j < 5 := (List.getElem?_eq_some_iff.1 hv).1
    rw [h.row.cellAt (i * 5 + j) (by omega)]
    exact ffl_at hp hv
/-- The place of a row. -/
def fatI (R : List Fr) (p q : Int) : Int := match R.findIdx? (fun x => decide (x.pid = p ∧ x.fd = q)) with
  | some i => i
  | none => -1
theorem fat_cases (R : List Fr) (p q : Int) : (fat R p q = none ∧ fatI R p q = -1 ∧ ∀ (i : Nat) (x : Fr), R[i]? = some x → ¬ (x.pid = p ∧ x.fd = q)) ∨
    ∃ (k : Nat) (x : Fr), fat R p q = some x ∧ R[k]? = some x ∧ fatI R p q = (k : Int) ∧ x.pid = p ∧ x.fd = q ∧ ∀ (i : Nat) (y : Fr), i < k → R[i]? = some y → ¬ (y.pid = p ∧ y.fd = q) := by
  unfold fatI fat
  cases h : R.findIdx? (fun x => decide (x.pid = p ∧ x.fd = q)) with
  | none =>
    left
    rw [List.findIdx?_eq_none_iff] at h
    refine ⟨?_, rfl, fun i x hx => by simpa using h x (List.mem_of_getElem? hx)⟩
    rw [List.find?_eq_none]
    intro x hx
    simpa using h x hx
  | some i =>
    right
    obtain ⟨hi, h2, h3⟩ := List.findIdx?_eq_some_iff_getElem.1 h
    have h2' := of_decide_eq_true h2
    refine ⟨i, R[i], ?_, List.getElem?_eq_getElem hi, rfl, h2'.1, h2'.2, fun j y hj hy => ?_⟩
    · rw [List.find?_eq_some_iff_getElem]
      exact ⟨h2, i, hi, rfl, fun j hj => by rw [Bool.eq_false_iff.2 (h3 j hj)]; rfl⟩
    · obtain ⟨hj2, e2⟩ := List.getElem?_eq_some_iff.1 hy
      have := h3 j hj
      rw [e2] at this
      simpa using this
set_option maxHeartbeats 1600000 in
theorem at_any {s : Nat} {w : World} {r : Nat} {ao : Option Addr} {cap : Nat} {R : List Fr} {last : Nat} (h : RAt s w r ao cap R last) (p q : Int) :
    Calls Try.prog 35 #[.pointer (some ⟨r, 0, none⟩), .int .i64 p, .int .i64 q] w fun e w' => e = .returned (.int .i64 (fatI R p q)) ∧ w' = w := by
  have hc0 := h.c0
  have hl := h.len
  have H := Lib.hid h
  clear h
  obtain ⟨n, hn⟩ : ∃ n, n = R.length := ⟨_, rfl⟩
  rw [← hn] at hc0 hl
  have step : ∀ (i : Nat), i < n → ∃ g x, ao = some ⟨g, 0, none⟩ ∧ R[i]? = some x ∧ w.cell? ⟨g, i * 5, none⟩ = some (.int .i64 x.pid) ∧ w.cell? ⟨g, i * 5 + 1, none⟩ = some (.int .i64 x.fd) := by
    intro i hi
    obtain ⟨x, hx⟩ : ∃ x, R[i]? = some x := ⟨_, List.getElem?_eq_getElem (by omega)⟩
    obtain ⟨g, hg, hc⟩ := H.out.at_ hx
    exact ⟨g, x, hg, hx, hc 0 _ rfl, hc 1 _ rfl⟩
  have STEP := Lib.hid step
  clear step
  rcases fat_cases R p q with ⟨-, h1, hno⟩ | ⟨k, x, -, hx, h1, hxp, hxq, hno⟩
  · have HNO := Lib.hid hno
    rw [h1]
    clear h1 hno
    go_enter Try.func35, Try.ntmps35
    go_wp2
    go_loopw [7] (fun v7 wr => ∃ i : Nat, i ≤ n ∧ v7 = .int .i64 i ∧ w = wr) (fun v7 _ => n - (intOf v7).toNat)
    case atStart => exact ⟨0, by omega, rfl, rfl⟩
    case round =>
      obtain ⟨i, hi, rfl, rfl⟩ := hrel
      by_cases hin : i < n
      · have hii : (i : Int) < n := by omega
        obtain ⟨g, x, rfl, hx, d0, d1⟩ := STEP.out i hin
        have hne := HNO.out i x hx
        clear hx
        by_cases hp : x.pid = p
        · have hq : (x.fd == q) = false := by simpa [hp] using hne
          rw [hp] at d0
          clear hp hne
          go_wp2
          go_round
          case rel => exact ⟨i + 1, by omega, by go_num, trivial⟩
          case measure => simp [intOf]; omega
        · have hp' : (x.pid == p) = false := by simpa using hp
          clear hp hne
          go_wp2
          go_round
          case rel => exact ⟨i + 1, by omega, by go_num, trivial⟩
          case measure => simp [intOf]; omega
      · obtain rfl : i = n := by omega
        go_wp2
        go_ret
        exact ⟨rfl, rfl⟩
  · have HNO := Lib.hid hno
    have hkn : k < n := by have := (List.getElem?_eq_some_iff.1 hx).1; omega
    have HX := Lib.hid (And.intro hx (And.intro hxp hxq))
    rw [h1]
    clear h1 hno hx hxp hxq
    go_enter Try.func35, Try.ntmps35
    go_wp2
    go_loopw [7] (fun v7 wr => ∃ i : Nat, i ≤ k ∧ v7 = .int .i64 i ∧ w = wr) (fun v7 _ => n - (intOf v7).toNat)
    case atStart => exact ⟨0, by omega, rfl, rfl⟩
    case round =>
      obtain ⟨i, hi, rfl, rfl⟩ := hrel
      have hii : (i : Int) < n := by omega
      obtain ⟨g, y, rfl, hy, d0, d1⟩ := STEP.out i (by omega)
      by_cases hik : i < k
      · have hne := HNO.out i y hik hy
        clear hy
        by_cases hp : y.pid = p
        · have hq : (y.fd == q) = false := by simpa [hp] using hne
          rw [hp] at d0
          clear hp hne
          go_wp2
          go_round
          case rel => exact ⟨i + 1, by omega, by go_num, trivial⟩
          case measure => simp [intOf]; omega
        · have hp' : (y.pid == p) = false := by simpa using hp
          clear hp hne
          go_wp2
          go_round
          case rel => exact ⟨i + 1, by omega, by go_num, trivial⟩
          case measure => simp [intOf]; omega
      · obtain rfl : i = k := by omega
        obtain ⟨hx, hxp, hxq⟩ := HX.out
        obtain rfl : x = y := by rw [hx] at hy; exact Option.some.inj hy
        rw [hxp] at d0
        rw [hxq] at d1
        clear hx hxp hxq hy
        go_wp2
        go_ret
        exact ⟨rfl, rfl⟩
set_option maxHeartbeats 1600000 in
theorem refs_any {s : Nat} {w : World} {r : Nat} {ao : Option Addr} {cap : Nat} {R : List Fr} {last : Nat} (h : RAt s w r ao cap R last) (f : Int) :
    Calls Try.prog 34 #[.pointer (some ⟨r, 0, none⟩), .int .i64 f] w fun e w' => e = .returned (.int .i64 (frefs R f)) ∧ w' = w := by
  have hc0 := h.c0
  have hl := h.len
  have H := Lib.hid h
  clear h
  obtain ⟨n, hn⟩ : ∃ n, n = R.length := ⟨_, rfl⟩
  rw [← hn] at hc0 hl
  have HN := Lib.hid hn
  have tk : ∀ (i : Nat) (x : Fr), R[i]? = some x → frefs (R.take (i + 1)) f = frefs (R.take i) f + if x.file = f then 1 else 0 := by
    intro i x hx
    unfold frefs
    rw [List.take_add_one, hx, List.filter_append, List.length_append]
    congr 1
    by_cases e : x.file = f <;> simp [e]
  have TK := Lib.hid tk
  clear tk hn
  go_enter Try.func34, Try.ntmps34
  go_wp2
  go_loopw [5, 6] (fun v5 v6 wr => ∃ i : Nat, i ≤ n ∧ v6 = .int .i64 i ∧ v5 = .int .i64 (frefs (R.take i) f) ∧ w = wr) (fun _ v6 _ => n - (intOf v6).toNat)
  case atStart => exact ⟨0, by omega, rfl, by simp [frefs], rfl⟩
  case round =>
    obtain ⟨i, hi, rfl, rfl, rfl⟩ := hrel
    have hfl : frefs (R.take i) f ≤ i := Nat.le_trans (List.length_filter_le _ _) (List.length_take_le _ _)
    by_cases hin : i < n
    · have hii : (i : Int) < n := by omega
      obtain ⟨x, hx⟩ : ∃ x, R[i]? = some x := ⟨_, List.getElem?_eq_getElem (by have := HN.out; omega)⟩
      obtain ⟨g, rfl, hc⟩ := H.out.at_ hx
      have d2 := hc 2 _ rfl
      have ht := TK.out i x hx
      clear hc hx
      by_cases hp : x.file = f
      · rw [if_pos hp] at ht
        rw [hp] at d2
        have HT := Lib.hid ht
        clear ht hp
        go_wp2
        go_round
        case rel => exact ⟨i + 1, by omega, by go_num, by rw [HT.out]; go_num, trivial⟩
        case measure => simp [intOf]; omega
      · rw [if_neg hp] at ht
        have hp' : (x.file == f) = false := by simpa using hp
        have HT := Lib.hid ht
        clear ht hp
        go_wp2
        go_round
        case rel => exact ⟨i + 1, by omega, by go_num, by rw [HT.out]; rfl, trivial⟩
        case measure => simp [intOf]; omega
    · obtain rfl : i = n := by omega
      go_wp2
      go_ret
      refine ⟨?_, rfl⟩
      rw [HN.out, List.take_length]
      rfl
theorem frefs_le (R : List Fr) (f : Int) : frefs R f ≤ R.length := List.length_filter_le _ _
theorem fcnt_le (R : List Fr) (k : Nat) : fcnt R k ≤ k := Nat.le_trans (List.length_filter_le _ _) (by simp)
theorem fcnt_succ (R : List Fr) (k : Nat) : fcnt R (k + 1) = fcnt R k + if 0 < frefs R ((k : Int) + 1) then 1 else 0 := by
  unfold fcnt
  rw [List.range_succ, List.filter_append, List.length_append]
  congr 1
  by_cases e : 0 < frefs R ((k : Int) + 1) <;> simp [e]
set_option maxHeartbeats 1600000 in
theorem rcount_any {s : Nat} {w : World} {r : Nat} {ao : Option Addr} {cap : Nat} {R : List Fr} {last : Nat} (h : RAt s w r ao cap R last) :
    Calls Try.prog 20 #[.pointer (some ⟨r, 0, none⟩)] w fun e w' => e = .returned (.int .i64 (fcnt R last)) ∧ w' = w := by
  have hc1 := h.c1
  have hl := h.lst
  have hn := h.len
  have H := Lib.hid h
  clear h
  go_enter Try.func20, Try.ntmps20
  go_wp2
  go_loopw [3, 4] (fun v3 v4 wr => ∃ i : Nat, i ≤ last ∧ v4 = .int .i64 ((i : Int) + 1) ∧ v3 = .int .i64 (fcnt R i) ∧ w = wr) (fun _ v4 _ => last + 1 - (intOf v4).toNat)
  case atStart => exact ⟨0, by omega, rfl, by simp [fcnt], rfl⟩
  case round =>
    obtain ⟨i, hi, rfl, rfl, rfl⟩ := hrel
    have hfl := fcnt_le R i
    by_cases hin : i < last
    · have hii : (i : Int) + 1 ≤ last := by omega
      have hs := fcnt_succ R i
      have hr := frefs_le R ((i : Int) + 1)
      by_cases hp : 0 < frefs R ((i : Int) + 1)
      · rw [if_pos hp] at hs
        have HS := Lib.hid hs
        have hp' : (0 : Int) < frefs R ((i : Int) + 1) := by omega
        clear hs
        go_wp2_with fail
        refine (refs_any H.out _).mono ?_
        rintro e w1 ⟨rfl, rfl⟩
        go_wp2
        go_round
        case rel => exact ⟨i + 1, by omega, by go_num, by rw [HS.out]; go_num, trivial⟩
        case measure => simp [intOf]; omega
      · rw [if_neg hp] at hs
        have HS := Lib.hid hs
        have hp' : frefs R ((i : Int) + 1) = 0 := by omega
        have HP := Lib.hid hp'
        clear hs hp hp'
        go_wp2_with fail
        refine (refs_any H.out _).mono ?_
        rintro e w1 ⟨rfl, rfl⟩
        rw [HP.out]
        go_wp2
        go_round
        case rel => exact ⟨i + 1, by omega, by go_num, by rw [HS.out]; rfl, trivial⟩
        case measure => simp [intOf]; omega
    · obtain rfl : i = last := by omega
      go_wp2
      go_ret
      exact ⟨rfl, rfl⟩
theorem fatI_neg {R : List Fr} {p q : Int} : fatI R p q < 0 ↔ fat R p q = none := by
  rcases fat_cases R p q with ⟨h0, h1, -⟩ | ⟨k, x, h0, -, h1, -⟩
  · rw [h0, h1]; simp
  · rw [h0, h1]; simp
/-- The least that is free. -/
def FrI (R : List Fr) (p k : Int) : Prop := (k = -1 ∧ ∀ i : Nat, i < 8 → fat R p i ≠ none) ∨ ∃ n : Nat, n < 8 ∧ k = n ∧ fat R p n = none ∧ ∀ j : Nat, j < n → fat R p j ≠ none
set_option maxHeartbeats 1600000 in
theorem rfree_any {s : Nat} {w : World} {r : Nat} {ao : Option Addr} {cap : Nat} {R : List Fr} {last : Nat} (h : RAt s w r ao cap R last) (p : Int) :
    Calls Try.prog 38 #[.pointer (some ⟨r, 0, none⟩), .int .i64 p] w fun e w' => ∃ k, e = .returned (.int .i64 k) ∧ FrI R p k ∧ w' = w := by
  have H := Lib.hid h
  clear h
  go_enter Try.func38, Try.ntmps38
  go_wp2
  go_loopw [5] (fun v5 wr => ∃ i : Nat, i ≤ 8 ∧ v5 = .int .i64 i ∧ Hid (∀ j : Nat, j < i → fat R p j ≠ none) ∧ w = wr) (fun v5 _ => 8 - (intOf v5).toNat)
  case atStart => exact ⟨0, by omega, rfl, Lib.hid (fun j hj => by omega), rfl⟩
  case round =>
    obtain ⟨i, hi, rfl, HJ, rfl⟩ := hrel
    by_cases hin : i < 8
    · have hii : (i : Int) < 8 := by omega
      have hneg := fatI_neg (R := R) (p := p) (q := i)
      by_cases hf : fatI R p i < 0
      · have HF := Lib.hid (hneg.1 hf)
        clear hneg
        go_wp2_with fail
        refine (at_any H.out _ _).mono ?_
        rintro e w1 ⟨rfl, rfl⟩
        go_wp2
        go_ret
        exact ⟨_, rfl, .inr ⟨i, hin, rfl, HF.out, HJ.out⟩, rfl⟩
      · have HF := Lib.hid (fun hh => hf (hneg.2 hh))
        have hf' : decide (fatI R p i < 0) = false := by simpa using hf
        clear hneg hf
        go_wp2_with fail
        refine (at_any H.out _ _).mono ?_
        rintro e w1 ⟨rfl, rfl⟩
        go_wp2
        go_round
        case rel =>
          refine ⟨i + 1, by omega, by go_num, Lib.hid (fun j hj => ?_), trivial⟩
          rcases Nat.lt_or_ge j i with h1 | h1
          · exact HJ.out j h1
          · obtain rfl : j = i := by omega
            exact HF.out
        case measure => simp [intOf]; omega
    · obtain rfl : i = 8 := by omega
      go_wp2
      go_ret
      exact ⟨_, rfl, .inl ⟨rfl, HJ.out⟩, rfl⟩
/-- What Get answers. -/
def rgetV (R : List Fr) (p q : Int) : Value × Int :=
  if p < 1 then (.agg #[.int .i64 0, .int .i64 0], 2) else match fat R p q with
    | none => (.agg #[.int .i64 0, .int .i64 0], 80)
    | some x => (.agg #[.int .i64 x.kind, .int .i64 x.thing], 0)
set_option maxHeartbeats 1600000 in
theorem rget_any {s : Nat} {w : World} {r : Nat} {ao : Option Addr} {cap : Nat} {R : List Fr} {last : Nat} (h : RAt s w r ao cap R last) (p q : Int) :
    Calls Try.prog 21 #[.pointer (some ⟨r, 0, none⟩), .int .i64 p, .int .i64 q] w fun e w' => e = .returned (.tuple #[(rgetV R p q).1, .int .i64 (rgetV R p q).2]) ∧ Same (fun _ => False) w w' := by
  have hR : RAt s (w.alloc (.cells #[.int .i64 0, .int .i64 0] 23)) r ao cap R last := h.same0 (same_alloc _)
  unfold rgetV
  have hsA := same_alloc (W := w) (.cells #[.int .i64 0, .int .i64 0] 23)
  have hrl := World.block_lt_of_cell? _ _ h.c0
  by_cases hp : p < 1
  · rw [if_pos hp]
    clear h hR
    go_enter Try.func21, Try.ntmps21
    go_wp2
    refine bodyPost_ret (v := .tuple #[.agg #[.int .i64 0, .int .i64 0], .int .i64 2]) (by simp [results, Try.results21, go_sem]) rfl ⟨rfl, ?_⟩
    exact same_alloc _
  · rw [if_neg hp]
    have hc0 := hR.c0
    have HSA := Lib.hid hsA
    have ha := at_any hR p q
    rcases fat_cases R p q with ⟨h0, h1, -⟩ | ⟨k, x, h0, hx, h1, -⟩
    · rw [h0]
      rw [h1] at ha
      clear h hR h0 h1 hsA
      go_enter Try.func21, Try.ntmps21
      go_wp2_with fail
      refine ha.mono ?_
      rintro e w1 ⟨rfl, rfl⟩
      go_wp2
      refine bodyPost_ret (v := .tuple #[.agg #[.int .i64 0, .int .i64 0], .int .i64 80]) (by simp [results, Try.results21, go_sem]) rfl ⟨rfl, ?_⟩
      exact same_alloc _
    · rw [h0]
      rw [h1] at ha
      have hk0 : ¬ (k : Int) < 0 := by omega
      have hl := hR.len
      have hkl := (List.getElem?_eq_some_iff.1 hx).1
      obtain ⟨g, rfl, hc⟩ := hR.at_ hx
      have d3 := hc 3 _ rfl
      have d4 := hc 4 _ rfl
      obtain ⟨n, hn⟩ : ∃ n, n = R.length := ⟨_, rfl⟩
      rw [← hn] at hc0 hl hkl
      have hkn : (k : Int) < n := by omega
      clear h hR h0 h1 hsA hx hc hn
      go_enter Try.func21, Try.ntmps21
      go_wp2_with fail
      refine ha.mono ?_
      rintro e w1 ⟨rfl, rfl⟩
      go_wp2
      refine bodyPost_ret (v := .tuple #[.agg #[.int .i64 x.kind, .int .i64 x.thing], .int .i64 0]) (by simp [results, Try.results21, go_sem]) rfl ⟨rfl, ?_⟩
      exact same_alloc _
end Go.Proofs.Ytcllofffbmbmlaa
