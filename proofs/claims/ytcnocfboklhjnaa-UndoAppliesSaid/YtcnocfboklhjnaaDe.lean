/- undo: Clear: a list copied, some left out of it in place. Conditions: the list's length. -/
import Derived.Test.YtcnocfboklhjnaaSm
import Derived.Test.YtcnocfboklhjnaaRd
import Derived.Laws.IdiomCopy
namespace Go.Proofs.Ytcnocfboklhjnaa
open Go.RowKit Go.Shelf
attribute [local go_sem] Oper.semAt_some

/-- Is one left out? -/
def delP (id num : Int) (t : Tri) : Bool := decide (t.id = id) && (decide (num < 0) || decide (t.num = num))
/-- The two boxes that the function value holds. -/
structure Cap (w : World) (p1 p2 : Nat) (id num : Int) : Prop where
  c1 : w.cell? ⟨p1, 0, none⟩ = some (.int .i64 id)
  c2 : w.cell? ⟨p2, 0, none⟩ = some (.int .i64 num)
theorem Cap.same {w w' : World} {p1 p2 : Nat} {id num : Int} {S : Nat → Prop} (h : Cap w p1 p2 id num) (hs : Same S w w') (h1 : ¬ S p1) (h2 : ¬ S p2) : Cap w' p1 p2 id num := ⟨hs.cell h.c1 h1, hs.cell h.c2 h2⟩
theorem pred_any {w : World} {p1 p2 : Nat} {id num : Int} (h : Cap w p1 p2 id num) (t : Tri) :
    Calls Try.prog 44 #[.agg #[.int .i64 t.id, .int .i64 t.num, .int .i64 t.n], .pointer (some ⟨p1, 0, none⟩), .pointer (some ⟨p2, 0, none⟩)] w fun e w' => e = .returned (.bool (delP id num t)) ∧ Same (fun _ => False) w w' := by
  have hsA : Same (fun _ => False) w (w.alloc (.cells #[.int .i64 t.id, .int .i64 t.num, .int .i64 t.n] 45)) := same_alloc _
  have c1 := h.c1
  have c2 := h.c2
  have lt : ∀ {b : Nat} {v : Value}, w.cell? ⟨b, 0, none⟩ = some v → b < w.heap.size := fun {b v} h => by
    rcases Nat.lt_or_ge b w.heap.size with h' | h'
    · exact h'
    · simp [World.cell?, Array.getElem?_eq_none h'] at h
  have l1 := lt c1
  have l2 := lt c2
  obtain ⟨B, hB⟩ : ∃ B, B = delP id num t := ⟨_, rfl⟩
  rw [← hB]
  unfold delP at hB
  have HB := Lib.hid hB
  clear hB lt h
  by_cases h1 : t.id = id
  · have e1 : (t.id == id) = true := by simpa using h1
    have H1 := Lib.hid h1
    clear h1
    by_cases h2 : num < 0
    · have e2 : decide (num < 0) = true := by simpa using h2
      have hb : B = true := by rw [HB.out]; simp [H1.out, h2]
      subst hb
      go_enter Try.func44, Try.ntmps44
      go_wp2
      go_ret
      exact ⟨rfl, hsA⟩
    · have e2 : decide (num < 0) = false := by simpa using h2
      by_cases h3 : t.num = num
      · have e3 : (t.num == num) = true := by simpa using h3
        have hb : B = true := by rw [HB.out]; simp [H1.out, h3]
        have H3 := Lib.hid h3
        clear h3
        subst hb
        go_enter Try.func44, Try.ntmps44
        go_wp2
        go_ret
        exact ⟨rfl, hsA⟩
      · have e3 : (t.num == num) = false := by simpa using h3
        have hb : B = false := by rw [HB.out]; simp [h2, h3]
        subst hb
        go_enter Try.func44, Try.ntmps44
        go_wp2
        go_ret
        exact ⟨rfl, hsA⟩
  · have e1 : (t.id == id) = false := by simpa using h1
    have hb : B = false := by rw [HB.out]; simp [h1]
    subst hb
    go_enter Try.func44, Try.ntmps44
    go_wp2
    go_ret
    exact ⟨rfl, hsA⟩
/-- Where the first one is that is left out; -1: nowhere. -/
def firstD (id num : Int) (l : List Tri) (r : Int) : Prop := (r = -1 ∧ ∀ t ∈ l, delP id num t = false) ∨ ∃ k : Nat, r = k ∧ k < l.length ∧ (∀ t ∈ l.take k, delP id num t = false) ∧ ∀ t, l[k]? = some t → delP id num t = true
set_option maxHeartbeats 800000 in
theorem index51 (w : World) (a : Option Addr) (c : Nat) (l : List Tri) (p1 p2 : Nat) (id num : Int) (hr : TriR w a l) (hlen : l.length ≤ maxLen) (hc : Cap w p1 p2 id num) :
    Calls Try.prog 51 #[.slice a l.length c, .func (.func 44) #[] #[.pointer (some ⟨p1, 0, none⟩), .pointer (some ⟨p2, 0, none⟩)]] w fun e w' => ∃ r : Int, firstD id num l r ∧ e = .returned (.int .i64 r) ∧ Same (fun _ => False) w w' := by
  have HR := Lib.hid hr
  have HC := Lib.hid hc
  have hn2 : l.length ≤ 9223372036854775807 := by unfold maxLen at hlen; omega
  obtain ⟨n, hn⟩ : ∃ n, n = l.length := ⟨_, rfl⟩
  rw [← hn] at hn2 ⊢
  have HN := Lib.hid hn
  clear hr hn hlen hc
  go_enter Try.func51, Try.ntmps51
  go_wp2
  go_loopw [8] (fun v8 wx => ∃ (i : Nat) (W : World), W = wx ∧ i ≤ n ∧ v8 = .int .i64 i ∧ Hid ((∀ t ∈ l.take i, delP id num t = false) ∧ Same (fun _ => False) w W)) (fun v8 _ => n - (intOf v8).toNat)
  case atStart => exact ⟨0, _, rfl, by omega, rfl, Lib.hid ⟨by simp, Same.refl _ _⟩⟩
  case round =>
    obtain ⟨i, W, hW, hi, rfl, HG⟩ := hrel
    subst hW
    by_cases hin : i < n
    · have hii : (i : Int) < n := by omega
      obtain ⟨t, ht⟩ : ∃ t, l[i]? = some t := ⟨_, List.getElem?_eq_getElem (by have := HN.out; omega)⟩
      obtain ⟨x, rfl, hx⟩ := HR.out.same0 HG.out.2 i t ht
      have x0 := hx.c0
      have x1 := hx.c1
      have x2 := hx.c2
      have HX := Lib.hid ht
      have hb := pred_any (HC.out.same HG.out.2 (fun h => h) (fun h => h)) t
      clear hx ht
      cases hbt : delP id num t with
      | true =>
        rw [hbt] at hb
        have HB := Lib.hid hbt
        clear hbt
        go_wp2_with (go_at_call 44; refine hb.mono ?_; rintro e w5 ⟨rfl, hs5⟩)
        have HS5 := Lib.hid hs5
        clear hs5
        go_ret
        refine ⟨i, .inr ⟨i, rfl, by have := HN.out; omega, HG.out.1, fun u hu => ?_⟩, rfl, HG.out.2.trans HS5.out⟩
        rw [HX.out] at hu
        cases hu
        exact HB.out
      | false =>
        rw [hbt] at hb
        have HB := Lib.hid hbt
        clear hbt
        go_wp2_with (go_at_call 44; refine hb.mono ?_; rintro e w5 ⟨rfl, hs5⟩)
        have HS5 := Lib.hid hs5
        clear hs5
        go_round
        case rel =>
          refine ⟨i + 1, _, rfl, by omega, by go_num, Lib.hid ⟨fun u hu => ?_, HG.out.2.trans HS5.out⟩⟩
          rw [List.take_add_one, HX.out] at hu
          rcases List.mem_append.1 hu with hu | hu
          · exact HG.out.1 u hu
          · simp at hu; rw [hu]; exact HB.out
        case measure => simp [intOf]; omega
    · obtain rfl : i = n := by omega
      go_wp2
      go_ret
      exact ⟨-1, .inl ⟨rfl, fun t ht => HG.out.1 t (by rw [HN.out, List.take_length]; exact ht)⟩, rfl, HG.out.2⟩
theorem same_setCells (b : Nat) : ∀ (vs : List Value) (o : Nat) (W : World), Same (· = b) W (W.setCells b o vs) := by
  intro vs
  induction vs with
  | nil => intro o W; exact Same.refl _ _
  | cons v r ih => intro o W; exact ((Same.refl (· = b) W).setCell (a := ⟨b, o, none⟩) v (.inr rfl)).trans (ih (o + 1) _)
theorem own_setCells {base g n cap : Nat} : ∀ (vs : List Value) (o : Nat) (w : World) (xs : List Value), w.ownsRow base 45 3 (.slice (some ⟨g, 0, none⟩) n cap) n xs →
    ∃ ys, (w.setCells g o vs).ownsRow base 45 3 (.slice (some ⟨g, 0, none⟩) n cap) n ys ∧ ys.take o = xs.take o
  | [], o, w, xs, h => ⟨xs, h, rfl⟩
  | v :: r, o, w, xs, h => by
    obtain ⟨ys, h1, h2⟩ := own_setCells r (o + 1) _ _ (h.stored o v).1
    refine ⟨ys, h1, ?_⟩
    have h3 := congrArg (List.take o) h2
    rw [List.take_take, List.take_take, Nat.min_eq_left (by omega)] at h3
    rw [h3]
    apply List.ext_getElem?
    intro i
    rw [List.getElem?_take, List.getElem?_take]
    split
    · rw [List.getElem?_set_ne (by omega)]
    · rfl
theorem own_take {w : World} {base g n cap i : Nat} {xs : List Value} (h : w.ownsRow base 45 3 (.slice (some ⟨g, 0, none⟩) n cap) n xs) (hi : i ≤ n) : w.ownsRow base 45 3 (.slice (some ⟨g, 0, none⟩) i cap) i (xs.take (i * 3)) := by
  refine ⟨by rw [List.length_take, h.1]; omega, ?_⟩
  rcases h.2 with ⟨h', _⟩ | ⟨g', cap', cur, h', hb, hg, hnc, hcm, hcs, ht⟩
  · simp at h'
  · simp only [Value.slice.injEq, Option.some.injEq, Addr.mk.injEq, and_true, true_and] at h'
    obtain ⟨rfl, rfl⟩ := h'
    refine .inr ⟨g, cap, cur, rfl, hb, hg, by omega, hcm, hcs, ?_⟩
    rw [← ht, List.take_take, Nat.min_eq_left (by omega)]
theorem flat3_take (l : List Tri) (i : Nat) : (flat3 l).take (i * 3) = flat3 (l.take i) := by
  induction l generalizing i with
  | nil => simp [flat3]
  | cons a l ih =>
    cases i with
    | zero => simp [flat3]
    | succ i =>
      have e : flat3 (a :: l) = .int .i64 a.id :: .int .i64 a.num :: .int .i64 a.n :: flat3 l := rfl
      have e2 : flat3 (a :: l.take i) = .int .i64 a.id :: .int .i64 a.num :: .int .i64 a.n :: flat3 (l.take i) := rfl
      rw [List.take_succ_cons, e, e2, show (i + 1) * 3 = i * 3 + 1 + 1 + 1 by omega, List.take_succ_cons, List.take_succ_cons, List.take_succ_cons, ih]
theorem clear22 {w : World} {base g n cap : Nat} {cur : List Tri} (h : w.ownsRow base 45 3 (.slice (some ⟨g, 0, none⟩) n cap) n (flat3 cur)) {i : Nat} (hi : i < n) (ty : TypeId) :
    ∃ w', (Builtin.clear_ #[22] ty #[.slice (some ⟨g, i * 3, none⟩) (n - i) (cap - i)]).run Try.prog w = .ok (.tuple #[]) w' ∧ Same (· = g) w w' ∧ w'.ownsRow base 45 3 (.slice (some ⟨g, 0, none⟩) i cap) i (flat3 (cur.take i)) := by
  obtain ⟨vs, hvs⟩ : ∃ vs, vs = (Builtin.zeroCells (Value.agg #[.int .i64 0, .int .i64 0, .int .i64 0]).cells (n - i)).toList := ⟨_, rfl⟩
  have hlen : vs.length = (n - i) * 3 := by rw [hvs, Array.length_toList, size_zeroCells]; rfl
  have hone : ∀ v ∈ vs, v.oneCell' = true := by
    intro v hv
    rw [hvs] at hv
    simp only [Builtin.zeroCells, Array.toList_map, List.mem_map] at hv
    obtain ⟨k, -, rfl⟩ := hv
    have h3 : (Value.agg #[.int .i64 0, .int .i64 0, .int .i64 0]).cells = #[.int .i64 0, .int .i64 0, .int .i64 0] := rfl
    rw [h3]
    have hk : k % 3 < 3 := Nat.mod_lt _ (by omega)
    show (#[Value.int .i64 0, Value.int .i64 0, Value.int .i64 0][k % 3]!).oneCell' = true
    rcases (by omega : k % 3 = 0 ∨ k % 3 = 1 ∨ k % 3 = 2) with e | e | e <;> rw [e] <;> rfl
  have hxl := h.1
  have hst := run_storeCells_cells (P := Try.prog) g (i * 3) vs 0 w (fun j hj => by
    rw [Nat.add_zero, h.cellAt (i * 3 + j) (by omega), List.getElem?_eq_getElem (by omega)]
    rfl) (fun j hj => h.frozenAt _) hone
  obtain ⟨ys, h1, h2⟩ := own_setCells vs (i * 3) w _ h
  have h3 := own_take h1 (Nat.le_of_lt hi)
  rw [h2, flat3_take] at h3
  refine ⟨_, ?_, same_setCells g vs (i * 3) w, h3⟩
  obtain ⟨m, hm⟩ : ∃ m, n - i = m + 1 := ⟨n - i - 1, by omega⟩
  have hz : ∀ w, (zeroValue 45).run Try.prog w = .ok (.agg #[.int .i64 0, .int .i64 0, .int .i64 0]) w := fun w => by kernel_rfl
  rw [hm] at hvs ⊢
  simp only [Nat.add_zero] at hst
  simp only [Builtin.clear_, Sem.run_bind, run_underlying Try.underlying22, Result.andThen, hz, ← hvs, hst, Sem.run_pure, List.getElem?_toArray, List.getElem?_cons_zero]
theorem addn (b o j : Nat) : (⟨b, o, none⟩ : Addr).add j = ⟨b, o + j, none⟩ := by
  unfold Addr.add
  split
  · rename_i h; subst h; rfl
  · rfl
set_option maxRecDepth 65536 in
theorem clone_tri (w : World) (a : Option Addr) (c : Nat) (l : List Tri) (hr : TriR w a l) (hlen : l.length ≤ 1000) (ha : a = none ∨ ∃ b o, a = some ⟨b, o, none⟩) (hnil : a = none → l = []) :
    Calls Try.prog 43 #[.slice a l.length c] w fun e w' => ∃ v, e = .returned v ∧ w'.ownsRow w.heap.size 45 3 v l.length (flat3 l) ∧ Same (fun _ => False) w w' := by
  rcases ha with rfl | ⟨b, o, rfl⟩
  · have hl := hnil rfl
    subst hl
    exact (AnyE.slices_Clone_nil Try.clone43 0 c w).mono fun e w' ⟨he, hw⟩ => ⟨_, he, World.ownsRow_nil .., hw ▸ Same.refl _ _⟩
  · obtain ⟨i45, hi, hz1, hz2, hz3⟩ := info45
    refine (AnyE.slices_Clone Try.clone43 i45 (.agg #[.int .i64 0, .int .i64 0, .int .i64 0]) 3 24 hi hz1 hz2 hz3 rfl (by decide) ?_ b o l.length c (flat3 l) w (flat3_len l) (by unfold maxLen; omega) (by omega) ?_ (flat3_one l)).mono ?_
    · exact fun w => by kernel_rfl
    · intro j u hj
      have h := hr.cells j u hj
      rw [addn] at h
      exact h
    · rintro e w' ⟨v, he, h1, _, h2⟩
      exact ⟨v, he, h1, same_below h2 (Nat.le_refl _)⟩
abbrev keep (id num : Int) (t : Tri) : Bool := !delP id num t
/-- The row while some are left out of it. -/
structure DelI (L : List Tri) (id num : Int) (i j : Nat) (cur : List Tri) : Prop where
  len : cur.length = L.length
  le : i ≤ j
  hd : cur.take i = (L.take j).filter (keep id num)
  tl : cur.drop j = L.drop j
theorem DelI.step {L cur : List Tri} {id num : Int} {i j : Nat} (h : DelI L id num i j cur) {t : Tri} (ht : L[j]? = some t) (hk : delP id num t = false) : DelI L id num (i + 1) (j + 1) (cur.set i t) := by
  have hj := (List.getElem?_eq_some_iff.1 ht).1
  have hi : i < cur.length := by have := h.len; have := h.le; omega
  refine ⟨by simpa using h.len, by have := h.le; omega, ?_, ?_⟩
  · rw [List.take_add_one, List.take_add_one, ht, List.filter_append, ← h.hd]
    congr 1
    · rw [List.take_set, List.set_eq_of_length_le (by rw [List.length_take]; omega)]
    · rw [List.getElem?_set, if_pos rfl, if_pos hi]
      simp [keep, hk]
  · rw [List.drop_set, if_pos (by have := h.le; omega)]
    have := congrArg (List.drop 1) h.tl
    rw [List.drop_drop, List.drop_drop] at this
    exact this
theorem DelI.skip {L cur : List Tri} {id num : Int} {i j : Nat} (h : DelI L id num i j cur) {t : Tri} (ht : L[j]? = some t) (hk : delP id num t = true) : DelI L id num i (j + 1) cur := by
  refine ⟨h.len, by have := h.le; omega, ?_, ?_⟩
  · rw [List.take_add_one, ht, List.filter_append, ← h.hd]
    simp [keep, hk]
  · have := congrArg (List.drop 1) h.tl
    rw [List.drop_drop, List.drop_drop] at this
    exact this
theorem DelI.at {L cur : List Tri} {id num : Int} {i j : Nat} (h : DelI L id num i j cur) (k : Nat) (hk : j ≤ k) : cur[k]? = L[k]? := by
  have := congrArg (fun l => l[k - j]?) h.tl
  simp only [List.getElem?_drop] at this
  rwa [show j + (k - j) = k by omega] at this
/-- One element stored in the row. -/
theorem own_store {w : World} {base g n cap : Nat} {cur : List Tri} (h : w.ownsRow base 45 3 (.slice (some ⟨g, 0, none⟩) n cap) n (flat3 cur)) {i : Nat} {t : Tri} (hi : i < cur.length) :
    (((w.setCell ⟨g, i * 3, none⟩ (.int .i64 t.id)).setCell ⟨g, i * 3 + 1, none⟩ (.int .i64 t.num)).setCell ⟨g, i * 3 + 2, none⟩ (.int .i64 t.n)).ownsRow base 45 3 (.slice (some ⟨g, 0, none⟩) n cap) n (flat3 (cur.set i t)) := by
  have h3 := ((((h.stored (i * 3) (.int .i64 t.id)).1).stored (i * 3 + 1) (.int .i64 t.num)).1.stored (i * 3 + 2) (.int .i64 t.n)).1
  have e : (((flat3 cur).set (i * 3) (.int .i64 t.id)).set (i * 3 + 1) (.int .i64 t.num)).set (i * 3 + 2) (.int .i64 t.n) = flat3 (cur.set i t) := by
    clear h h3
    induction cur generalizing i with
    | nil => simp at hi
    | cons a l ih =>
      have e : ∀ (a : Tri) (l : List Tri), flat3 (a :: l) = .int .i64 a.id :: .int .i64 a.num :: .int .i64 a.n :: flat3 l := fun _ _ => rfl
      cases i with
      | zero => simp [e]
      | succ i =>
        have ih := ih (i := i) (by simpa using hi)
        rw [List.set_cons_succ, e, e, ← ih, show (i + 1) * 3 = i * 3 + 1 + 1 + 1 by omega, show i * 3 + 1 + 1 + 1 + 1 = i * 3 + 1 + 1 + 1 + 1 from rfl]
        simp [List.set_cons_succ, Nat.add_assoc]
  rw [e] at h3
  exact h3
set_option maxHeartbeats 1600000 in
set_option maxRecDepth 16384 in
theorem delete42 (w : World) (base g cap : Nat) (L : List Tri) (p1 p2 : Nat) (id num : Int) (hr : w.ownsRow base 45 3 (.slice (some ⟨g, 0, none⟩) L.length cap) L.length (flat3 L)) (hlen : L.length ≤ 1000) (hc : Cap w p1 p2 id num) (h1 : p1 ≠ g) (h2 : p2 ≠ g) :
    Calls Try.prog 42 #[.slice (some ⟨g, 0, none⟩) L.length cap, .func (.func 44) #[] #[.pointer (some ⟨p1, 0, none⟩), .pointer (some ⟨p2, 0, none⟩)]] w fun e w' =>
      ∃ v, e = .returned v ∧ w'.ownsRow base 45 3 v (L.filter (keep id num)).length (flat3 (L.filter (keep id num))) ∧ Same (· = g) w w' := by
  obtain ⟨ao, cap', hv, hrow, hrb, -, hcap⟩ := own_tri hr
  cases hv
  have hin := index51 w _ cap L p1 p2 id num hrow (by unfold maxLen; omega) hc
  have HO := Lib.hid hr
  have HC := Lib.hid hc
  have hgl := (hrb _ rfl).2
  obtain ⟨n, hn⟩ : ∃ n, n = L.length := ⟨_, rfl⟩
  rw [← hn] at hin hlen hcap ⊢
  have HN := Lib.hid hn
  clear hr hc hrow hn hrb
  go_enter Try.func42, Try.ntmps42
  go_wp2_with fail
  refine hin.mono ?_
  rintro e w1 ⟨r, hr, rfl, hs1⟩
  have HS1 := Lib.hid hs1
  clear hin hs1
  rcases hr with ⟨rfl, hall⟩ | ⟨k, rfl, hk, hbef, hat⟩
  · have HA := Lib.hid hall
    clear hall
    go_wp2
    go_ret
    refine ⟨_, rfl, ?_, HS1.out.mono (fun _ _ h => h.elim)⟩
    have hf : L.filter (keep id num) = L := List.filter_eq_self.2 (fun t ht => by simp [keep, HA.out t ht])
    rw [hf, HN.out]
    exact ownsRow_same HO.out HS1.out (fun _ _ h => h)
  · have hkn : k < n := by rw [HN.out]; exact hk
    have e1 : ((k : Int) == -1) = false := beq_eq_false_iff_ne.2 (by omega)
    obtain ⟨t0, ht0⟩ : ∃ t, L[k]? = some t := ⟨_, List.getElem?_eq_getElem hk⟩
    have hI0 : DelI L id num k k L := ⟨rfl, Nat.le_refl _, (List.filter_eq_self.2 (fun t ht => by simp [keep, hbef t ht])).symm, rfl⟩
    have hI1 := hI0.skip ht0 (hat t0 ht0)
    have HI1 := Lib.hid hI1
    clear hbef hat ht0 hI0 hI1 hk
    have hz1 := HS1.out.size
    go_wp2
    go_loopw [5, 6, 7] (fun v5 v6 v7 wx => ∃ (i j : Nat) (W : World) (cur : List Tri), W = wx ∧ j ≤ n ∧ i < j ∧ v5 = .int .i64 i ∧ v6 = .int .i64 j ∧ Hid (DelI L id num i j cur ∧ W.ownsRow base 45 3 (.slice (some ⟨g, 0, none⟩) n cap) n (flat3 cur) ∧ Same (· = g) w1 W)) (fun _ v6 _ _ => n - (intOf v6).toNat)
    case atStart => exact ⟨k, k + 1, _, L, rfl, by omega, by omega, rfl, by go_num, Lib.hid ⟨HI1.out, by rw [HN.out]; exact ownsRow_same HO.out HS1.out (fun _ _ h => h), Same.refl _ _⟩⟩
    case round =>
      obtain ⟨i, j, W, cur, hW, hj, hi, rfl, rfl, HI⟩ := hrel
      subst hW
      have hcl : cur.length = n := by rw [HI.out.1.len, HN.out]
      have hin : i < n := by omega
      have hzw := HI.out.2.2.size
      by_cases hjn : j < n
      · have hjj : (j : Int) < n := by omega
        have hij := HI.out.1.le
        obtain ⟨t, ht⟩ : ∃ t, L[j]? = some t := ⟨_, List.getElem?_eq_getElem (by have := HN.out; omega)⟩
        have htc : cur[j]? = some t := by rw [HI.out.1.at j (Nat.le_refl _)]; exact ht
        obtain ⟨f0, f1, f2⟩ := flat3_at cur j t htc
        have x0 := HI.out.2.1.cellAt (j * 3) (by omega)
        have x1 := HI.out.2.1.cellAt (j * 3 + 1) (by omega)
        have x2 := HI.out.2.1.cellAt (j * 3 + 2) (by omega)
        rw [f0] at x0
        rw [f1] at x1
        rw [f2] at x2
        have hcap2 : Cap W p1 p2 id num := (HC.out.same HS1.out (fun h => h) (fun h => h)).same HI.out.2.2 h1 h2
        have hpr := pred_any (hcap2.same (same_alloc (.cells #[.int .i64 t.id, .int .i64 t.num, .int .i64 t.n] 45)) (fun h => h) (fun h => h)) t
        have HT := Lib.hid ht
        clear f0 f1 f2 htc hcap2 ht
        obtain ⟨m0, m1, hb0⟩ : W.frozen? ⟨g, i * 3, none⟩ = false ∧ W.frozen? ⟨g, i * 3 + 1, none⟩ = false ∧ W.frozen? ⟨g, i * 3 + 2, none⟩ = false := ⟨HI.out.2.1.frozenAt _, HI.out.2.1.frozenAt _, HI.out.2.1.frozenAt _⟩
        cases hdp : delP id num t with
        | true =>
          rw [hdp] at hpr
          have HDP := Lib.hid hdp
          clear hdp
          go_wp2_with fail
          refine hpr.mono ?_
          rintro e w5 ⟨rfl, hs5⟩
          have HS5 := Lib.hid hs5
          clear hs5 hpr
          go_wp2
          go_round
          case rel => exact ⟨i, j + 1, _, cur, rfl, by omega, by omega, rfl, by go_num, Lib.hid ⟨HI.out.1.skip HT.out HDP.out, ownsRow_same HI.out.2.1 ((same_alloc _).trans HS5.out) (fun _ _ h => h), HI.out.2.2.trans (((same_alloc _).trans HS5.out).mono (fun _ _ h => h.elim))⟩⟩
          case measure => simp [intOf]; omega
        | false =>
          rw [hdp] at hpr
          have HDP := Lib.hid hdp
          clear hdp
          go_wp2_with fail
          refine hpr.mono ?_
          rintro e w5 ⟨rfl, hs5⟩
          have hsA : Same (fun _ => False) W w5 := (same_alloc _).trans hs5
          have b0 : w5.cell? ⟨W.heap.size, 0, none⟩ = some (.int .i64 t.id) := hs5.cell (by simp [go_sem]) (fun h => h)
          have b1 : w5.cell? ⟨W.heap.size, 1, none⟩ = some (.int .i64 t.num) := hs5.cell (by simp [go_sem]) (fun h => h)
          have b2 : w5.cell? ⟨W.heap.size, 2, none⟩ = some (.int .i64 t.n) := hs5.cell (by simp [go_sem]) (fun h => h)
          have hown5 := ownsRow_same HI.out.2.1 hsA (fun _ _ h => h)
          obtain ⟨u, hu⟩ : ∃ u, cur[i]? = some u := ⟨_, List.getElem?_eq_getElem (by omega)⟩
          obtain ⟨f0, f1, f2⟩ := flat3_at cur i u hu
          have y0 := hown5.cellAt (i * 3) (by omega)
          have y1 := hown5.cellAt (i * 3 + 1) (by omega)
          have y2 := hown5.cellAt (i * 3 + 2) (by omega)
          rw [f0] at y0
          rw [f1] at y1
          rw [f2] at y2
          have z0 := hown5.frozenAt (i * 3)
          have z1 := hown5.frozenAt (i * 3 + 1)
          have z2 := hown5.frozenAt (i * 3 + 2)
          have HA5 := Lib.hid (And.intro hsA (own_store hown5 (i := i) (t := t) (by omega)))
          have hii : (i : Int) < n := by omega
          have hgl5 : g < W.heap.size := by omega
          clear hs5 hpr hsA hown5 hu f0 f1 f2
          go_wp2
          refine ⟨⟨i + 1, j + 1, _, cur.set i t, rfl, by omega, by omega, by go_num, by go_num, Lib.hid ⟨HI.out.1.step HT.out HDP.out, HA5.out.2, HI.out.2.2.trans ((HA5.out.1.mono (T := (· = g)) (fun _ _ h => h.elim)).trans ((((Same.refl (· = g) w5).setCell (a := ⟨g, i * 3, none⟩) _ (.inr rfl)).setCell (a := ⟨g, i * 3 + 1, none⟩) _ (.inr rfl)).setCell (a := ⟨g, i * 3 + 2, none⟩) _ (.inr rfl)))⟩⟩, by simp [intOf]; omega⟩
      · obtain rfl : j = n := by omega
        obtain ⟨w6, hclr, hs6, hown6⟩ := clear22 HI.out.2.1 hin 0
        have H6 := Lib.hid (And.intro hs6 hown6)
        clear hs6 hown6
        go_wp2
        go_ret
        have hfi : cur.take i = L.filter (keep id num) := by rw [HI.out.1.hd, HN.out, List.take_length]
        have hfl : (L.filter (keep id num)).length = i := by rw [← hfi, List.length_take]; omega
        refine ⟨_, rfl, ?_, (HS1.out.mono (T := (· = g)) (fun _ _ h => h.elim)).trans (HI.out.2.2.trans H6.out.1)⟩
        rw [hfl, ← hfi]
        exact H6.out.2
end Go.Proofs.Ytcnocfboklhjnaa
