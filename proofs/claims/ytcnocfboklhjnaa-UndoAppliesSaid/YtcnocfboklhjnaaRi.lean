/- undo: Right. No condition. -/
import Derived.Test.YtcnocfboklhjnaaPa
import Derived.Stop.RegionWithIn
namespace Go.Proofs.Ytcnocfboklhjnaa
open Go.RowKit Go.Shelf Go.Lib Go.Sort
attribute [local go_sem] Oper.semAt_some

theorem same_grow (w : World) (n : Nat) (os : Array Obj) : Same (fun _ => False) w (grow (w.drewN n) os) := by
  refine ⟨rfl, rfl, rfl, by simp [grow], fun k hk _ => ?_, fun k hk => ?_⟩
  · exact (Array.getElem?_append_left hk : ((w.drewN n).heap ++ os)[k]? = w.heap[k]?)
  · have e : ((w.drewN n).heap ++ os)[k]? = w.heap[k]? := Array.getElem?_append_left hk
    unfold World.shape? grow
    simp only [e]
theorem compare_s (W : World) (p q : Int × Int) :
    Calls Try.prog 36 #[.agg #[.int .i64 p.1, .int .i64 p.2], .agg #[.int .i64 q.1, .int .i64 q.2]] W fun e w' => e = .returned (.int .i64 (cmpP p q)) ∧ Same (fun _ => False) W w' :=
  (compare_any W p q).mono fun _ _ ⟨he, n, os, hw⟩ => ⟨he, hw ▸ same_grow W n os⟩
theorem cmpP_gt (p q : Int × Int) : 0 < cmpP p q ↔ Un.klt q p := by
  unfold cmpP Lib.compareInt Un.klt
  by_cases h1 : p.1 < q.1
  · simp [h1]; omega
  · by_cases h2 : q.1 < p.1
    · have h3 : ¬ p.1 = q.1 := by omega
      simp [h1, h2]
    · have h3 : p.1 = q.1 := by omega
      by_cases h4 : p.2 < q.2
      · simp [h3, h4]; omega
      · by_cases h5 : q.2 < p.2 <;> simp [h3, h4, h5]
/-- What is wrong with one, behind the place of the one ahead. -/
def Bad (o : Int × Int) (t : Tri) : Prop := t.id < 0 ∨ (¬ t.id < 0 ∧ t.num < 0) ∨ (¬ t.id < 0 ∧ ¬ t.num < 0 ∧ t.n = 0) ∨ (¬ t.id < 0 ∧ ¬ t.num < 0 ∧ ¬ t.n = 0 ∧ okS t.n = false) ∨
  (¬ t.id < 0 ∧ ¬ t.num < 0 ∧ ¬ t.n = 0 ∧ okS t.n = true ∧ (o.1 == t.id && o.2 == t.num) = true) ∨ (¬ t.id < 0 ∧ ¬ t.num < 0 ∧ ¬ t.n = 0 ∧ okS t.n = true ∧ (o.1 == t.id && o.2 == t.num) = false ∧ 0 < cmpP o t.key)
def Good (o : Int × Int) (t : Tri) : Prop := ¬ t.id < 0 ∧ ¬ t.num < 0 ∧ ¬ t.n = 0 ∧ okS t.n = true ∧ (o.1 == t.id && o.2 == t.num) = false ∧ ¬ 0 < cmpP o t.key
theorem good_or_bad (o : Int × Int) (t : Tri) : Good o t ∨ Bad o t := by
  unfold Good Bad
  by_cases h1 : t.id < 0
  · exact .inr (.inl h1)
  by_cases h2 : t.num < 0
  · exact .inr (.inr (.inl ⟨h1, h2⟩))
  by_cases h3 : t.n = 0
  · exact .inr (.inr (.inr (.inl ⟨h1, h2, h3⟩)))
  cases h4 : okS t.n
  · exact .inr (.inr (.inr (.inr (.inl ⟨h1, h2, h3, rfl⟩))))
  cases h5 : (o.1 == t.id && o.2 == t.num)
  · by_cases h6 : 0 < cmpP o t.key
    · exact .inr (.inr (.inr (.inr (.inr (.inr ⟨h1, h2, h3, rfl, rfl, h6⟩)))))
    · exact .inl ⟨h1, h2, h3, rfl, rfl, h6⟩
  · exact .inr (.inr (.inr (.inr (.inr (.inl ⟨h1, h2, h3, rfl, rfl⟩)))))
theorem good_iff (o : Int × Int) (t : Tri) : Good o t ↔ Un.okA t ∧ Un.klt o t.key := by
  have hk := Un.klt_tri o t.key
  have hirr := Un.klt_irr o
  unfold Good Un.okA
  rw [cmpP_gt]
  have he : ((o.1 == t.id && o.2 == t.num) = false) ↔ ¬ o = t.key := by
    rw [Bool.eq_false_iff]
    simp only [ne_eq, Bool.and_eq_true, beq_iff_eq]
    exact ⟨fun h e => h (by rw [e]; exact ⟨rfl, rfl⟩), fun h ⟨h1, h2⟩ => h (Prod.ext h1 h2)⟩
  rw [he]
  have ho : okS t.n = true ↔ -32767 ≤ t.n ∧ t.n ≤ 32767 := by simp [okS]
  rw [ho]
  constructor
  · rintro ⟨h1, h2, h3, h4, h5, h6⟩
    refine ⟨⟨by omega, by omega, h3, h4.1, h4.2⟩, ?_⟩
    rcases hk with h | h | h
    · exact h
    · exact absurd h h5
    · exact absurd h h6
  · rintro ⟨⟨h1, h2, h3, h4, h4'⟩, h5⟩
    refine ⟨by omega, by omega, h3, ⟨h4, h4'⟩, fun e => ?_, fun h => ?_⟩
    · rw [← e] at h5; exact hirr h5
    · exact hirr (Un.klt_trans h5 h)
theorem bad_not {o : Int × Int} {t : Tri} (h : Bad o t) : ¬ Good o t := by
  unfold Bad Good at *
  rintro ⟨h1, h2, h3, h4, h5, h6⟩
  rcases h with h | h | h | h | h | h
  · exact h1 h
  · exact h2 h.2
  · exact h3 h.2.2
  · rw [h4] at h; exact absurd h.2.2.2 (by simp)
  · rw [h5] at h; exact absurd h.2.2.2.2 (by simp)
  · exact h6 h.2.2.2.2.2
theorem chain_asc {L : List Tri} (h : ∀ (i : Nat) (a b : Tri), L[i]? = some a → L[i + 1]? = some b → Un.klt a.key b.key) : L.Pairwise (fun a b => Un.klt a.key b.key) := by
  rw [List.pairwise_iff_getElem]
  intro i j hi hj hij
  induction j with
  | zero => omega
  | succ j ih =>
    have hs := h j L[j] L[j + 1] (List.getElem?_eq_getElem (by omega)) (List.getElem?_eq_getElem hj)
    by_cases e : i = j
    · subst e; exact hs
    · exact Un.klt_trans (ih (by omega) (by omega)) hs
theorem right_iff (L : List Tri) : Un.Right L ↔ L.length ≤ 64 ∧ ∀ i t, L[i]? = some t → Good (oldK L i) t := by
  constructor
  · rintro ⟨h1, h2, h3⟩
    refine ⟨h1, fun i t hi => (good_iff _ _).2 ?_⟩
    have hok := h2 t (List.mem_of_getElem? hi)
    refine ⟨hok, ?_⟩
    cases i with
    | zero => left; show (-1 : Int) < t.id; have := hok.1; omega
    | succ i =>
      have hlt := (List.getElem?_eq_some_iff.1 hi).1
      rw [oldK_succ (List.getElem?_eq_getElem (by omega : i < L.length))]
      rw [List.pairwise_iff_getElem] at h3
      have := h3 i (i + 1) (by omega) hlt (by omega)
      rwa [(List.getElem?_eq_some_iff.1 hi).2] at this
  · rintro ⟨h1, h2⟩
    refine ⟨h1, fun t ht => ?_, chain_asc fun i a b ha hb => ?_⟩
    · obtain ⟨i, hi⟩ := List.getElem?_of_mem ht
      exact ((good_iff _ _).1 (h2 i t hi)).1
    · have := ((good_iff _ _).1 (h2 (i + 1) b hb)).2
      rwa [oldK_succ ha] at this
/-- The two variables of a round. -/
structure Vars (W0 : World) (bo bt : Nat) (o : Int × Int) (t : Tri) (W : World) : Prop where
  sm : Same (fun _ => False) W0 W
  o0 : W.cell? ⟨bo, 0, none⟩ = some (.int .i64 o.1)
  o1 : W.cell? ⟨bo, 1, none⟩ = some (.int .i64 o.2)
  t0 : W.cell? ⟨bt, 0, none⟩ = some (.int .i64 t.id)
  t1 : W.cell? ⟨bt, 1, none⟩ = some (.int .i64 t.num)
  t2 : W.cell? ⟨bt, 2, none⟩ = some (.int .i64 t.n)
theorem Vars.same0 {W0 : World} {bo bt : Nat} {o : Int × Int} {t : Tri} {W W' : World} (h : Vars W0 bo bt o t W) (hs : Same (fun _ => False) W W') : Vars W0 bo bt o t W' :=
  ⟨h.sm.trans hs, hs.cell h.o0 (fun h => h), hs.cell h.o1 (fun h => h), hs.cell h.t0 (fun h => h), hs.cell h.t1 (fun h => h), hs.cell h.t2 (fun h => h)⟩
set_option maxHeartbeats 3200000 in
set_option maxRecDepth 16384 in
theorem right_any (w : World) (a : Option Addr) (c : Nat) (L : List Tri) (hr : TriR w a L) (hlen : L.length ≤ maxLen) (ha : ∀ x, a = some x → x.block < w.heap.size) :
    Calls Try.prog 15 #[.slice a L.length c] w fun e w' => ∃ b : Bool, (b = true ↔ Un.Right L) ∧ e = .returned (.bool b) ∧ Same (fun _ => False) w w' := by
  have HR := Lib.hid hr
  have HL := Lib.hid hlen
  obtain ⟨n, hn⟩ : ∃ n, n = L.length := ⟨_, rfl⟩
  rw [← hn]
  have HN := Lib.hid hn
  clear hr hlen hn
  refine (callsIn_wide (n := 0)).1 ?_
  refine callsIn_of_wp_marks Try.func15 rfl trivial ?_ rfl
  simp only [Try.ntmps15, List.size_toArray, List.length_cons, List.length_nil, Nat.reduceAdd, Nat.reduceSub, Array.replicate_succ, Array.replicate_zero, List.push_toArray, List.append_toArray, List.nil_append, List.cons_append]
  gi_wp2
  refine wpIn_scope_straight ?_
  gi_wp2
  refine wpIn_label ?_
  gi_wp2_with (gi_at_call 34; refine CallsIn.mono (callsIn_wide.2 (pairs_any _ _ _ _)) ?_; rintro e w' ⟨rfl, rfl⟩)
  refine range_wide (gf := 47) (lb := #[.pointer (some ⟨w.heap.size + 1, 0, none⟩)]) rfl (enters_of Try.func47 (by kernel_rfl) rfl) ?_
  intro rec D L0 W1 hD hL hrule hs1 hl1 hd1 _
  simp only [World.size_alloc] at hD
  have hc0 : W1.cell? ⟨w.heap.size, 0, none⟩ = some (.bool (decide ((n : Int) ≤ 64))) := hs1.cell (by simp [go_sem]) (by simp)
  have hf0 : W1.frozen? ⟨w.heap.size, 0, none⟩ = false := (hs1.frozen (by simp; omega) (by simp)).trans (by simp [go_sem])
  have hb0 : W1.cell? ⟨w.heap.size + 1, 0, none⟩ = some (.slice a L.length c) := by rw [← HN.out]; exact hs1.cell (by simp [go_sem]) (by simp)
  have hL1 := (Array.getElem?_eq_some_iff.1 hl1).1
  have hs2 : Same (fun k => w.heap.size ≤ k) w W1 := (((Same.refl _ w).alloc _).alloc _).trans (hs1.mono (by simp))
  have hW1 := hs1.size
  simp only [World.size_alloc] at hW1
  refine Calls.mono (pairs1 L0 (w.heap.size + 1) a c L (fun i W => W1.heap.size ≤ W.heap.size ∧ W.cell? ⟨w.heap.size, 0, none⟩ = some (.bool (decide ((n : Int) ≤ 64))) ∧ W.frozen? ⟨w.heap.size, 0, none⟩ = false ∧
      (∀ j t, j < i → L[j]? = some t → Good (oldK L j) t) ∧ Same (fun k => w.heap.size ≤ k) w W ∧ W.heap[L0]? = some (rec .ready none) ∧ W.heap[D]? = some (.deferred (some [])))
    (fun W => W.cell? ⟨w.heap.size, 0, none⟩ = some (.bool false) ∧ (∃ j t, L[j]? = some t ∧ ¬ Good (oldK L j) t) ∧ Same (fun k => w.heap.size ≤ k) w W ∧ W.heap[L0]? = some (rec .done (some (.exit 0))) ∧ W.heap[D]? = some (.deferred (some [])))
    W1 hb0 ((HR.out.same0 ((same_alloc _).alloc _)).same0 hs1) HL.out (fun x hx => by have := ha x hx; omega) ?_ ?_ ⟨Nat.le_refl _, hc0, hf0, (fun j t hj => by omega), hs2, hl1, hd1⟩) ?_
  · rintro i W W' ⟨h1, h2, h3, h4, h5, h6, h7⟩ hs
    have := hs.size
    exact ⟨by omega, hs.cell h2 (by simp; omega), hs.unfrozen h2 h3 (by simp; omega), h4, h5.trans (hs.mono (fun k _ e => by omega)), hs.block h6 (by omega), hs.block h7 (by omega)⟩
  · rintro i t W ⟨h1, h2, h3, h4, h5, h6, h7⟩ hit hgr
    have H4 := Lib.hid h4
    have HIT := Lib.hid hit
    clear h4 hit
    refine hrule W _ _ h6 rfl ?_
    gi_wp2
    refine ⟨((same_alloc _).alloc _).block h6 (by simp), ?_⟩
    intro W2 hq hzw hl2
    have hqa : Same (· = L0) W W2 := (((same_alloc _).alloc _).mono (fun _ _ h => h.elim)).trans hq
    have o0 : W2.cell? ⟨W.heap.size, 0, none⟩ = some (.int .i64 (oldK L i).1) := hq.cell (by simp [go_sem]) (by simp; omega)
    have o1 : W2.cell? ⟨W.heap.size, 1, none⟩ = some (.int .i64 (oldK L i).2) := hq.cell (by simp [go_sem]) (by simp; omega)
    have t0 : W2.cell? ⟨W.heap.size + 1, 0, none⟩ = some (.int .i64 t.id) := hq.cell (by simp [go_sem]) (by simp; omega)
    have t1 : W2.cell? ⟨W.heap.size + 1, 1, none⟩ = some (.int .i64 t.num) := hq.cell (by simp [go_sem]) (by simp; omega)
    have t2 : W2.cell? ⟨W.heap.size + 1, 2, none⟩ = some (.int .i64 t.n) := hq.cell (by simp [go_sem]) (by simp; omega)
    have p0 := hqa.cell h2 (by simp; omega)
    have p1 := hqa.unfrozen h2 h3 (by simp; omega)
    have p7 := hqa.block h7 (by omega)
    have hsA : Same (fun _ => False) W2 ((W2.alloc (.cells #[.int .i64 t.n] 3)).drew) := (same_alloc (W := W2) _).drew
    have a0 := hsA.cell o0 (fun h => h)
    have a1 := hsA.cell o1 (fun h => h)
    have b0 := hsA.cell t0 (fun h => h)
    have b1 := hsA.cell t1 (fun h => h)
    have b2 := hsA.cell t2 (fun h => h)
    have hzA := hsA.size
    obtain ⟨WA, hWA⟩ : ∃ WA, WA = (W2.alloc (.cells #[.int .i64 t.n] 3)).drew := ⟨_, rfl⟩
    rw [← hWA] at hsA a0 a1 b0 b1 b2 hzA
    have n0 : WA.cell? ⟨W2.heap.size, 0, none⟩ = some (.int .i64 t.n) := by rw [hWA]; simp [go_sem]
    have hAr := are_any WA W2.heap.size t.n n0
    have HA := Lib.hid hsA
    have VA : Vars W2 W.heap.size (W.heap.size + 1) (oldK L i) t WA := ⟨hsA, a0, a1, b0, b1, b2⟩
    have HZ := Lib.hid hzw
    have HWA := Lib.hid hWA
    clear hq hsA hzw hWA
    have FR := Lib.hid (show ∀ W8, Same (fun b => b = L0 ∨ b = w.heap.size) W2 W8 → FrR W1.heap.size a W W8 from fun W8 hs8 => by
      have z2 := hqa.size
      have z8 := hs8.size
      refine ⟨by omega, fun b hb => ?_⟩
      have hb2 : b < W.heap.size ∧ b ≠ L0 ∧ b ≠ w.heap.size := by
        rcases hb with hb | hb | ⟨x, hx, hb⟩
        · omega
        · omega
        · have := ha x hx
          omega
      rw [hs8.old _ (by omega) (by omega), hqa.old _ (by omega) (by omega)])
    have HQ := Lib.hid hqa
    clear hqa
    rcases good_or_bad (oldK L i) t with hg | hbad
    · have HG := Lib.hid hg
      obtain ⟨g1, g2, g3, g4, g5, g6⟩ := hg
      rw [g4] at hAr
      have e1 : decide (t.id < 0) = false := by simpa using g1
      have e2 : decide (t.num < 0) = false := by simpa using g2
      have e3 : (t.n == 0) = false := by simpa using g3
      have e5 : ∀ W, (binOp .eql 58 (.agg #[.int .i64 (oldK L i).1, .int .i64 (oldK L i).2]) (.agg #[.int .i64 t.id, .int .i64 t.num])).run Try.prog W = .ok (.bool false) W := fun W => by rw [eql58, g5]
      have e6 : decide (0 < cmpP (oldK L i) t.key) = false := by simpa using g6
      gi_wp2_with fail
      gi_region_with (first
        | (gi_at_call 30; rw [← HWA.out]; refine CallsIn.mono (Wide.calls (wide_round L0) hAr) ?_; rintro e w5 ⟨rfl, rfl⟩)
        | (gi_at_call 35; refine CallsIn.mono (Wide.calls (wide_round L0) (of_any _ t)) ?_; rintro e w5 ⟨rfl, hs5⟩
           have hv5 : Vars W2 W.heap.size (W.heap.size + 1) (oldK L i) t w5 := Vars.same0 (by assumption) hs5
           have d0 := hv5.o0
           have d1 := hv5.o1
           have d2 := hv5.t0
           have d3 := hv5.t1
           have d4 := hv5.t2)
        | (gi_at_call 36; refine CallsIn.mono (Wide.calls (wide_round L0) (compare_s _ (oldK L i) t.key)) ?_; rintro e w5 ⟨rfl, hs5⟩
           have hv5 : Vars W2 W.heap.size (W.heap.size + 1) (oldK L i) t w5 := Vars.same0 (by assumption) hs5))
      all_goals
        have hv := (by assumption : Vars W2 W.heap.size (W.heap.size + 1) (oldK L i) t w5)
        have HSM := Lib.hid hv.sm
        clear hv
        gi_wp2
        have zz := HSM.out.size
        have z2 := HQ.out.size
        refine ⟨HSM.out.block hl2 (fun h => h), fun W8 hs8 hz8 hl8 => ⟨.inl ⟨rfl, by omega, hs8.cell (HSM.out.cell p0 (fun h => h)) (by simp; omega), hs8.unfrozen (HSM.out.cell p0 (fun h => h)) (HSM.out.unfrozen p0 p1 (fun h => h)) (by simp; omega), fun j t' hj ht' => ?_,
          ((h5.trans (HQ.out.mono (fun b _ e => by omega))).trans (HSM.out.mono (fun _ _ h => h.elim))).trans (hs8.mono (fun b _ e => by omega)), hl8, hs8.block (HSM.out.block p7 (fun h => h)) (by omega)⟩, FR.out W8 ((HSM.out.mono (fun _ _ h => h.elim)).trans (hs8.mono (fun b _ e => .inl e)))⟩⟩
        by_cases hji : j = i
        · subst hji
          rw [HIT.out] at ht'
          cases ht'
          exact HG.out
        · exact H4.out j t' (by omega) ht'
    · have HB := Lib.hid (bad_not hbad)
      have BL := Lib.hid (show ∀ W5, Same (fun _ => False) W2 W5 → (W5.setCell ⟨w.heap.size, 0, none⟩ (.bool false)).heap[L0]? = some (rec .busy none) from fun W5 hs => ((Same.refl (· = w.heap.size) W5).setCell _ (.inr rfl)).block (hs.block hl2 (fun h => h)) (by omega))
      have BF := Lib.hid (show ∀ W5, Same (fun _ => False) W2 W5 → ∀ W8, Same (· = L0) (W5.setCell ⟨w.heap.size, 0, none⟩ (.bool false)) W8 → W8.heap[L0]? = some (rec .done (some (.exit 0))) → ∀ e : Ending, e = .returned (.bool false) →
          (((e = Ending.returned (.bool true)) ∧ (W1.heap.size ≤ W8.heap.size ∧ W8.cell? ⟨w.heap.size, 0, none⟩ = some (.bool (decide ((n : Int) ≤ 64))) ∧ W8.frozen? ⟨w.heap.size, 0, none⟩ = false ∧
            (∀ j t, j < i + 1 → L[j]? = some t → Good (oldK L j) t) ∧ Same (fun k => w.heap.size ≤ k) w W8 ∧ W8.heap[L0]? = some (rec .ready none) ∧ W8.heap[D]? = some (.deferred (some [])))) ∨
           (e = Ending.returned (.bool false) ∧ W8.cell? ⟨w.heap.size, 0, none⟩ = some (.bool false) ∧ (∃ j t, L[j]? = some t ∧ ¬ Good (oldK L j) t) ∧ Same (fun k => w.heap.size ≤ k) w W8 ∧ W8.heap[L0]? = some (rec .done (some (.exit 0))) ∧ W8.heap[D]? = some (.deferred (some [])))) ∧ FrR W1.heap.size a W W8 from fun W5 hs W8 hs8 hl8 e he => by
        have hst : Same (· = w.heap.size) W5 (W5.setCell ⟨w.heap.size, 0, none⟩ (.bool false)) := (Same.refl _ W5).setCell _ (.inr rfl)
        have hall : Same (fun b => b = L0 ∨ b = w.heap.size) W2 W8 := ((hs.mono (fun _ _ h => h.elim)).trans (hst.mono (fun _ _ e => .inr e))).trans (hs8.mono (fun _ _ e => .inl e))
        have hc : (W5.setCell ⟨w.heap.size, 0, none⟩ (.bool false)).cell? ⟨w.heap.size, 0, none⟩ = some (.bool false) := World.cell?_setCell_same _ _ _ (hs.cell p0 (fun h => h))
        refine ⟨.inr ⟨he, hs8.cell hc (by simp; omega), ⟨i, t, HIT.out, HB.out⟩, ((h5.trans (HQ.out.mono (fun b _ e => by omega))).trans (hall.mono (fun b _ e => by omega))), hl8, ?_⟩, FR.out W8 hall⟩
        exact hs8.block (hst.block (hs.block p7 (fun h => h)) (by omega)) (by omega))
      have HDR : Same (fun _ => False) W2 W2.drew := (Same.refl _ W2).drew
      have hsA := HA.out
      have q0A := hsA.cell p0 (fun h => h)
      have q1A := hsA.unfrozen p0 p1 (fun h => h)
      rcases hbad with h1 | h1 | h1 | h1 | h1 | h1
      · have e1 : decide (t.id < 0) = true := by simpa using h1
        gi_wp2_with fail
        gi_region_with (first
          | (gi_at_call 30; rw [← HWA.out]; refine CallsIn.mono (Wide.calls (wide_round L0) hAr) ?_; rintro e w5 ⟨rfl, rfl⟩)
          | (gi_at_call 35; refine CallsIn.mono (Wide.calls (wide_round L0) (of_any _ t)) ?_; rintro e w5 ⟨rfl, hs5⟩
             have hv5 : Vars W2 W.heap.size (W.heap.size + 1) (oldK L i) t w5 := Vars.same0 (by assumption) hs5
             have d0 := hv5.o0
             have d1 := hv5.o1
             have d2 := hv5.t0
             have d3 := hv5.t1
             have d4 := hv5.t2
             have hsm5 := hv5.sm
             have q0 := hsm5.cell p0 (fun h => h)
             have q1 := hsm5.unfrozen p0 p1 (fun h => h))
          | (gi_at_call 36; refine CallsIn.mono (Wide.calls (wide_round L0) (compare_s _ (oldK L i) t.key)) ?_; rintro e w5 ⟨rfl, hs5⟩
             have hv5 : Vars W2 W.heap.size (W.heap.size + 1) (oldK L i) t w5 := Vars.same0 (by assumption) hs5
             have hsm5 := hv5.sm
             have q0 := hsm5.cell p0 (fun h => h)
             have q1 := hsm5.unfrozen p0 p1 (fun h => h)))
        all_goals gi_wp2
        all_goals exact ⟨BL.out W2.drew HDR, fun W8 hs8 hz8 hl8 => BF.out W2.drew HDR W8 hs8 hl8 _ rfl⟩
      · obtain ⟨h1, h2'⟩ := h1
        have e1 : decide (t.id < 0) = false := by simpa using h1
        have e2 : decide (t.num < 0) = true := by simpa using h2'
        gi_wp2_with fail
        gi_region_with (first
          | (gi_at_call 30; rw [← HWA.out]; refine CallsIn.mono (Wide.calls (wide_round L0) hAr) ?_; rintro e w5 ⟨rfl, rfl⟩)
          | (gi_at_call 35; refine CallsIn.mono (Wide.calls (wide_round L0) (of_any _ t)) ?_; rintro e w5 ⟨rfl, hs5⟩
             have hv5 : Vars W2 W.heap.size (W.heap.size + 1) (oldK L i) t w5 := Vars.same0 (by assumption) hs5
             have d0 := hv5.o0
             have d1 := hv5.o1
             have d2 := hv5.t0
             have d3 := hv5.t1
             have d4 := hv5.t2
             have hsm5 := hv5.sm
             have q0 := hsm5.cell p0 (fun h => h)
             have q1 := hsm5.unfrozen p0 p1 (fun h => h))
          | (gi_at_call 36; refine CallsIn.mono (Wide.calls (wide_round L0) (compare_s _ (oldK L i) t.key)) ?_; rintro e w5 ⟨rfl, hs5⟩
             have hv5 : Vars W2 W.heap.size (W.heap.size + 1) (oldK L i) t w5 := Vars.same0 (by assumption) hs5
             have hsm5 := hv5.sm
             have q0 := hsm5.cell p0 (fun h => h)
             have q1 := hsm5.unfrozen p0 p1 (fun h => h)))
        all_goals gi_wp2
        all_goals exact ⟨BL.out W2.drew HDR, fun W8 hs8 hz8 hl8 => BF.out W2.drew HDR W8 hs8 hl8 _ rfl⟩
      · obtain ⟨h1, h2', h3'⟩ := h1
        have e1 : decide (t.id < 0) = false := by simpa using h1
        have e2 : decide (t.num < 0) = false := by simpa using h2'
        have e3 : (t.n == 0) = true := by simpa using h3'
        gi_wp2_with fail
        gi_region_with (first
          | (gi_at_call 30; rw [← HWA.out]; refine CallsIn.mono (Wide.calls (wide_round L0) hAr) ?_; rintro e w5 ⟨rfl, rfl⟩)
          | (gi_at_call 35; refine CallsIn.mono (Wide.calls (wide_round L0) (of_any _ t)) ?_; rintro e w5 ⟨rfl, hs5⟩
             have hv5 : Vars W2 W.heap.size (W.heap.size + 1) (oldK L i) t w5 := Vars.same0 (by assumption) hs5
             have d0 := hv5.o0
             have d1 := hv5.o1
             have d2 := hv5.t0
             have d3 := hv5.t1
             have d4 := hv5.t2
             have hsm5 := hv5.sm
             have q0 := hsm5.cell p0 (fun h => h)
             have q1 := hsm5.unfrozen p0 p1 (fun h => h))
          | (gi_at_call 36; refine CallsIn.mono (Wide.calls (wide_round L0) (compare_s _ (oldK L i) t.key)) ?_; rintro e w5 ⟨rfl, hs5⟩
             have hv5 : Vars W2 W.heap.size (W.heap.size + 1) (oldK L i) t w5 := Vars.same0 (by assumption) hs5
             have hsm5 := hv5.sm
             have q0 := hsm5.cell p0 (fun h => h)
             have q1 := hsm5.unfrozen p0 p1 (fun h => h)))
        all_goals gi_wp2
        all_goals exact ⟨BL.out W2.drew HDR, fun W8 hs8 hz8 hl8 => BF.out W2.drew HDR W8 hs8 hl8 _ rfl⟩
      · obtain ⟨h1, h2', h3', h4'⟩ := h1
        have e1 : decide (t.id < 0) = false := by simpa using h1
        have e2 : decide (t.num < 0) = false := by simpa using h2'
        have e3 : (t.n == 0) = false := by simpa using h3'
        rw [h4'] at hAr
        gi_wp2_with fail
        gi_region_with (first
          | (gi_at_call 30; rw [← HWA.out]; refine CallsIn.mono (Wide.calls (wide_round L0) hAr) ?_; rintro e w5 ⟨rfl, rfl⟩)
          | (gi_at_call 35; refine CallsIn.mono (Wide.calls (wide_round L0) (of_any _ t)) ?_; rintro e w5 ⟨rfl, hs5⟩
             have hv5 : Vars W2 W.heap.size (W.heap.size + 1) (oldK L i) t w5 := Vars.same0 (by assumption) hs5
             have d0 := hv5.o0
             have d1 := hv5.o1
             have d2 := hv5.t0
             have d3 := hv5.t1
             have d4 := hv5.t2
             have hsm5 := hv5.sm
             have q0 := hsm5.cell p0 (fun h => h)
             have q1 := hsm5.unfrozen p0 p1 (fun h => h))
          | (gi_at_call 36; refine CallsIn.mono (Wide.calls (wide_round L0) (compare_s _ (oldK L i) t.key)) ?_; rintro e w5 ⟨rfl, hs5⟩
             have hv5 : Vars W2 W.heap.size (W.heap.size + 1) (oldK L i) t w5 := Vars.same0 (by assumption) hs5
             have hsm5 := hv5.sm
             have q0 := hsm5.cell p0 (fun h => h)
             have q1 := hsm5.unfrozen p0 p1 (fun h => h)))
        all_goals gi_wp2
        all_goals refine ⟨BL.out _ ?_, fun W8 hs8 hz8 hl8 => BF.out _ ?_ W8 hs8 hl8 _ rfl⟩
        all_goals assumption
      · obtain ⟨h1, h2', h3', h4', h5'⟩ := h1
        have e1 : decide (t.id < 0) = false := by simpa using h1
        have e2 : decide (t.num < 0) = false := by simpa using h2'
        have e3 : (t.n == 0) = false := by simpa using h3'
        rw [h4'] at hAr
        have e5 : ∀ W, (binOp .eql 58 (.agg #[.int .i64 (oldK L i).1, .int .i64 (oldK L i).2]) (.agg #[.int .i64 t.id, .int .i64 t.num])).run Try.prog W = .ok (.bool true) W := fun W => by rw [eql58, h5']
        gi_wp2_with fail
        gi_region_with (first
          | (gi_at_call 30; rw [← HWA.out]; refine CallsIn.mono (Wide.calls (wide_round L0) hAr) ?_; rintro e w5 ⟨rfl, rfl⟩)
          | (gi_at_call 35; refine CallsIn.mono (Wide.calls (wide_round L0) (of_any _ t)) ?_; rintro e w5 ⟨rfl, hs5⟩
             have hv5 : Vars W2 W.heap.size (W.heap.size + 1) (oldK L i) t w5 := Vars.same0 (by assumption) hs5
             have d0 := hv5.o0
             have d1 := hv5.o1
             have d2 := hv5.t0
             have d3 := hv5.t1
             have d4 := hv5.t2
             have hsm5 := hv5.sm
             have q0 := hsm5.cell p0 (fun h => h)
             have q1 := hsm5.unfrozen p0 p1 (fun h => h))
          | (gi_at_call 36; refine CallsIn.mono (Wide.calls (wide_round L0) (compare_s _ (oldK L i) t.key)) ?_; rintro e w5 ⟨rfl, hs5⟩
             have hv5 : Vars W2 W.heap.size (W.heap.size + 1) (oldK L i) t w5 := Vars.same0 (by assumption) hs5
             have hsm5 := hv5.sm
             have q0 := hsm5.cell p0 (fun h => h)
             have q1 := hsm5.unfrozen p0 p1 (fun h => h)))
        all_goals gi_wp2
        all_goals refine ⟨BL.out _ ?_, fun W8 hs8 hz8 hl8 => BF.out _ ?_ W8 hs8 hl8 _ rfl⟩
        all_goals assumption
      · obtain ⟨h1, h2', h3', h4', h5', h6'⟩ := h1
        have e1 : decide (t.id < 0) = false := by simpa using h1
        have e2 : decide (t.num < 0) = false := by simpa using h2'
        have e3 : (t.n == 0) = false := by simpa using h3'
        rw [h4'] at hAr
        have e5 : ∀ W, (binOp .eql 58 (.agg #[.int .i64 (oldK L i).1, .int .i64 (oldK L i).2]) (.agg #[.int .i64 t.id, .int .i64 t.num])).run Try.prog W = .ok (.bool false) W := fun W => by rw [eql58, h5']
        have e6 : decide (0 < cmpP (oldK L i) t.key) = true := by simpa using h6'
        gi_wp2_with fail
        gi_region_with (first
          | (gi_at_call 30; rw [← HWA.out]; refine CallsIn.mono (Wide.calls (wide_round L0) hAr) ?_; rintro e w5 ⟨rfl, rfl⟩)
          | (gi_at_call 35; refine CallsIn.mono (Wide.calls (wide_round L0) (of_any _ t)) ?_; rintro e w5 ⟨rfl, hs5⟩
             have hv5 : Vars W2 W.heap.size (W.heap.size + 1) (oldK L i) t w5 := Vars.same0 (by assumption) hs5
             have d0 := hv5.o0
             have d1 := hv5.o1
             have d2 := hv5.t0
             have d3 := hv5.t1
             have d4 := hv5.t2
             have hsm5 := hv5.sm
             have q0 := hsm5.cell p0 (fun h => h)
             have q1 := hsm5.unfrozen p0 p1 (fun h => h))
          | (gi_at_call 36; refine CallsIn.mono (Wide.calls (wide_round L0) (compare_s _ (oldK L i) t.key)) ?_; rintro e w5 ⟨rfl, hs5⟩
             have hv5 : Vars W2 W.heap.size (W.heap.size + 1) (oldK L i) t w5 := Vars.same0 (by assumption) hs5
             have hsm5 := hv5.sm
             have q0 := hsm5.cell p0 (fun h => h)
             have q1 := hsm5.unfrozen p0 p1 (fun h => h)))
        all_goals gi_wp2
        all_goals refine ⟨BL.out _ ?_, fun W8 hs8 hz8 hl8 => BF.out _ ?_ W8 hs8 hl8 _ rfl⟩
        all_goals assumption
  · rintro e W ⟨⟨v0, rfl⟩, ⟨h1, h2, h3, h4, h5, h6, h7⟩ | ⟨h2, h4, h5, h6, h7⟩⟩
    · refine ⟨⟨_, rfl⟩, .inl ⟨h6, fun W2 hs2 _ => ?_⟩⟩
      have hc2 := hs2.cell h2 (by simp; omega)
      have hd2 := hs2.block h7 (by omega)
      have hs3 := h5.trans (hs2.mono (fun k _ e => by omega))
      have H4 := Lib.hid h4
      clear h4
      gi_wp2
      refine leaves_mark hd2 fun W3 hs4 _ => ⟨results_tmp rfl _ _ _, ?_⟩
      refine ⟨decide ((n : Int) ≤ 64), ?_, rfl, (hs3.trans (hs4.mono (fun k _ e => by omega))).mono (fun k h h' => by omega)⟩
      rw [right_iff, decide_eq_true_eq]
      have := HN.out
      exact ⟨fun h => ⟨by omega, fun i t hi => H4.out i t (List.getElem?_eq_some_iff.1 hi).1 hi⟩, fun h => by omega⟩
    · refine ⟨⟨_, rfl⟩, .inr ⟨_, h6, fun W2 hs2 _ => ?_⟩⟩
      have hc2 := hs2.cell h2 (by simp; omega)
      have hd2 := hs2.block h7 (by omega)
      have hs3 := h5.trans (hs2.mono (fun k _ e => by omega))
      have H4 := Lib.hid h4
      clear h4
      gi_wp2
      refine leaves_mark hd2 fun W3 hs4 _ => ⟨results_tmp rfl _ _ _, ?_⟩
      refine ⟨false, ?_, rfl, (hs3.trans (hs4.mono (fun k _ e => by omega))).mono (fun k h h' => by omega)⟩
      rw [right_iff]
      obtain ⟨j, t, hj, hb⟩ := H4.out
      exact ⟨fun h => (by cases h), fun h => absurd (h.2 j t hj) hb⟩
end Go.Proofs.Ytcnocfboklhjnaa
