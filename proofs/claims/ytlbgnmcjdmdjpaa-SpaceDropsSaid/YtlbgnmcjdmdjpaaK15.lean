/- slices.Delete at attachments: one of them is left out, in place. Conditions: their row is an array of its own.
space.Detach. Conditions: the memory's form, attachments' bounds.
A list of spaces with one of them put anew. Conditions: the list is an array of its own.
The plain law of SpaceDrops: what acts on spaces leave. Conditions: none.
A list of spaces in the world; acts as arguments. Conditions: none.
What a region that draws may call: the frames given, of any number; a call that tells of something. Conditions: none.
SpaceDrops' acts, as an argument. No condition. -/
import Derived.Test.YtlbgnmcjdmdjpaaK10
import Derived.Laws.IdiomCopy
import Derived.Shelf.RegionOpenPlain
import Derived.Deep.RegionLaw
import Derived.Lib.Walk
import Derived.Sort.WalkB12
import Derived.Lib.SliceRun
import Derived.Test.YtlbgnmcjdmdjpaaK8
import Derived.Test.YtlbgnmcjdmdjpaaK11
import Derived.Test.YtlbgnmcjdmdjpaaK12
import Derived.Test.YtlbgnmcjdmdjpaaK2
import Derived.Test.YtlbgnmcjdmdjpaaK1
set_option linter.unusedSimpArgs false
set_option linter.unusedVariables false
namespace Go.Proofs.Ytlbgnmcjdmdjpaa
open Go.RowKit Go.Shelf
attribute [local go_sem] Oper.semAt_some
theorem own_setCells {base g n cap : Nat} : ∀ (vs : List Value) (o : Nat) (w : World) (xs : List Value), w.ownsRow base 164 3 (.slice (some ⟨g, 0, none⟩) n cap) n xs →
    ∃ ys, (w.setCells g o vs).ownsRow base 164 3 (.slice (some ⟨g, 0, none⟩) n cap) n ys ∧ ys.length = xs.length ∧ ∀ k, k < xs.length → ys[k]? = if o ≤ k ∧ k < o + vs.length then vs[k - o]? else xs[k]?
  | [], o, w, xs, h => ⟨xs, h, rfl, fun k _ => by rw [if_neg (by simp only [List.length_nil]; omega)]⟩
  | v :: r, o, w, xs, h => by
    obtain ⟨ys, h1, h2, h3⟩ := own_setCells r (o + 1) _ _ (h.stored o v).1
    refine ⟨ys, h1, by rw [h2, List.length_set], fun k hk => ?_⟩
    rw [h3 k (by rw [List.length_set]; exact hk)]
    simp only [List.length_cons]
    by_cases c : k = o
    · subst c
      rw [if_neg (by omega), if_pos (by omega), List.getElem?_set_self hk, Nat.sub_self]
      rfl
    · rw [List.getElem?_set_ne (by omega)]
      by_cases d : o + 1 ≤ k ∧ k < o + 1 + r.length
      · rw [if_pos d, if_pos (by omega), show k - o = (k - (o + 1)) + 1 by omega, List.getElem?_cons_succ]
      · rw [if_neg d, if_neg (by omega)]
theorem own_take {w : World} {base g n cap i : Nat} {xs : List Value} (h : w.ownsRow base 164 3 (.slice (some ⟨g, 0, none⟩) n cap) n xs) (hi : i ≤ n) : w.ownsRow base 164 3 (.slice (some ⟨g, 0, none⟩) i cap) i (xs.take (i * 3)) := by
  refine ⟨by rw [List.length_take, h.1]; omega, ?_⟩
  rcases h.2 with ⟨h', _⟩ | ⟨g', cap', cur, h', hb, hg, hnc, hcm, hcs, ht⟩
  · simp at h'
  · simp only [Value.slice.injEq, Option.some.injEq, Addr.mk.injEq, and_true, true_and] at h'
    obtain ⟨rfl, rfl⟩ := h'
    refine .inr ⟨g, cap, cur, rfl, hb, hg, by omega, hcm, hcs, ?_⟩
    rw [← ht, List.take_take, Nat.min_eq_left (by omega)]
theorem flatA_take : ∀ (l : List Att) (i : Nat), (flatA l).take (i * 3) = flatA (l.take i)
  | [], i => by simp [flatA]
  | a :: l, 0 => by simp [flatA]
  | a :: l, i + 1 => by
    have e : flatA (a :: l) = .int .i64 a.pg :: .int .i64 a.ct :: .bool a.wr :: flatA l := rfl
    have e2 : flatA (a :: l.take i) = .int .i64 a.pg :: .int .i64 a.ct :: .bool a.wr :: flatA (l.take i) := rfl
    rw [List.take_succ_cons, e, e2, show (i + 1) * 3 = i * 3 + 1 + 1 + 1 by omega, List.take_succ_cons, List.take_succ_cons, List.take_succ_cons, flatA_take l i]
theorem flatA_drop : ∀ (l : List Att) (i : Nat), (flatA l).drop (i * 3) = flatA (l.drop i)
  | [], i => by simp [flatA]
  | a :: l, 0 => by simp
  | a :: l, i + 1 => by
    have e : flatA (a :: l) = .int .i64 a.pg :: .int .i64 a.ct :: .bool a.wr :: flatA l := rfl
    rw [List.drop_succ_cons, e, show (i + 1) * 3 = i * 3 + 1 + 1 + 1 by omega, List.drop_succ_cons, List.drop_succ_cons, List.drop_succ_cons, flatA_drop l i]
theorem clear73 {w : World} {base g n cap : Nat} {xs : List Value} (h : w.ownsRow base 164 3 (.slice (some ⟨g, 0, none⟩) n cap) n xs) {i : Nat} (hi : i < n) (ty : TypeId) :
    ∃ w', (Builtin.clear_ #[73] ty #[.slice (some ⟨g, i * 3, none⟩) (n - i) (cap - i)]).run Try.prog w = .ok (.tuple #[]) w' ∧ Same (· = g) w w' ∧ w'.ownsRow base 164 3 (.slice (some ⟨g, 0, none⟩) i cap) i (xs.take (i * 3)) := by
  obtain ⟨vs, hvs⟩ : ∃ vs, vs = (Builtin.zeroCells (Value.agg #[.int .i64 0, .int .i64 0, .bool false]).cells (n - i)).toList := ⟨_, rfl⟩
  have hlen : vs.length = (n - i) * 3 := by rw [hvs, Array.length_toList, size_zeroCells]; rfl
  have hone : ∀ v ∈ vs, v.oneCell' = true := by
    intro v hv
    rw [hvs] at hv
    simp only [Builtin.zeroCells, Array.toList_map, List.mem_map] at hv
    obtain ⟨k, -, rfl⟩ := hv
    have h3 : (Value.agg #[.int .i64 0, .int .i64 0, .bool false]).cells = #[.int .i64 0, .int .i64 0, .bool false] := rfl
    rw [h3]
    have hk : k % 3 < 3 := Nat.mod_lt _ (by omega)
    show (#[Value.int .i64 0, Value.int .i64 0, Value.bool false][k % 3]!).oneCell' = true
    rcases (by omega : k % 3 = 0 ∨ k % 3 = 1 ∨ k % 3 = 2) with e | e | e <;> rw [e] <;> rfl
  have hxl := h.1
  have hst := run_storeCells_cells (P := Try.prog) g (i * 3) vs 0 w (fun j hj => by
    rw [Nat.add_zero, h.cellAt (i * 3 + j) (by omega), List.getElem?_eq_getElem (by omega)]
    rfl) (fun j hj => h.frozenAt _) hone
  obtain ⟨ys, h1, h0, h2⟩ := own_setCells vs (i * 3) w _ h
  have h3 := own_take h1 (Nat.le_of_lt hi)
  have h4 : ys.take (i * 3) = xs.take (i * 3) := by
    apply List.ext_getElem?
    intro k
    rw [List.getElem?_take, List.getElem?_take]
    split
    · rw [h2 k (by omega), if_neg (by omega)]
    · rfl
  rw [h4] at h3
  refine ⟨_, ?_, same_setCells g vs (i * 3) w, h3⟩
  obtain ⟨m, hm⟩ : ∃ m, n - i = m + 1 := ⟨n - i - 1, by omega⟩
  have hz : ∀ w, (zeroValue 164).run Try.prog w = .ok (.agg #[.int .i64 0, .int .i64 0, .bool false]) w := fun w => by kernel_rfl
  rw [hm] at hvs ⊢
  simp only [Nat.add_zero] at hst
  simp only [Builtin.clear_, Sem.run_bind, run_underlying Try.under73, Result.andThen, hz, ← hvs, hst, Sem.run_pure, List.getElem?_toArray, List.getElem?_cons_zero]
set_option maxHeartbeats 4000000 in
set_option maxRecDepth 100000 in
theorem delete_att (w : World) (base g cap : Nat) (l : List Att) (h : w.ownsRow base 164 3 (.slice (some ⟨g, 0, none⟩) l.length cap) l.length (flatA l)) (i : Nat) (hi : i < l.length) :
    Calls Try.prog 100 #[.slice (some ⟨g, 0, none⟩) l.length cap, .int .i64 i, .int .i64 ((i + 1 : Nat) : Int)] w fun e w' =>
      e = .returned (.slice (some ⟨g, 0, none⟩) (l.length - 1) cap) ∧ w'.ownsRow base 164 3 (.slice (some ⟨g, 0, none⟩) (l.length - 1) cap) (l.length - 1) (flatA (l.eraseIdx i)) ∧ Same (· = g) w w' := by
  obtain ⟨n, hn⟩ : ∃ n, n = l.length := ⟨_, rfl⟩
  have hfl := flatA_len l
  have hcm : n ≤ cap ∧ cap ≤ maxLen := by
    rcases h.2 with ⟨h', _⟩ | ⟨g', cap', cur, h', hb, hg, hnc, hcm, hcs, ht⟩
    · simp at h'
    · simp only [Value.slice.injEq, Option.some.injEq, Addr.mk.injEq, and_true, true_and] at h'
      obtain ⟨rfl, rfl⟩ := h'
      exact ⟨by omega, hcm⟩
  obtain ⟨hnc, hcm⟩ := hcm
  unfold maxLen at hcm
  obtain ⟨j, hj⟩ : ∃ j, j = i + 1 := ⟨_, rfl⟩
  obtain ⟨news, hnews⟩ : ∃ news, news = flatA (l.drop j) := ⟨_, rfl⟩
  have hlen : news.length = (n - j) * 3 := by rw [hnews, flatA_len, List.length_drop, hn]
  have hget : ∀ t, t < news.length → news[t]? = (flatA l)[j * 3 + t]? := fun t ht => by
    rw [hnews, ← flatA_drop, List.getElem?_drop]
  rw [← hn] at h hi ⊢
  rw [← hj]
  obtain ⟨A, hA, hsrc⟩ : ∃ A : Addr, (if cap = j then some (⟨g, 0, none⟩ : Addr) else some ⟨g, j * 3, none⟩) = some A ∧ Hid (∀ t u, news[t]? = some u → w.drew.cell? (A.add t) = some u) := by
    by_cases hc : cap = j
    · refine ⟨⟨g, 0, none⟩, by simp [hc], fun t u hu => ?_⟩
      have h0 : news.length = 0 := by rw [hlen]; omega
      rw [List.length_eq_zero_iff.1 h0] at hu
      simp at hu
    · refine ⟨⟨g, j * 3, none⟩, by simp [hc], fun t u hu => ?_⟩
      have ht : t < news.length := (List.getElem?_eq_some_iff.1 hu).1
      rw [hget t ht] at hu
      rw [Addr.add_lit]
      show w.cell? _ = _
      rw [h.cellAt _ (by omega)]
      exact hu
  have s1 : Hid (news.length = (n - j) * 3) := hlen
  have s2 : Hid (∀ u ∈ news, u.oneCell' = true) := by rw [hnews]; exact flatA_one _
  have s3 : Hid (∀ t, t < news.length → (w.drew.cell? ⟨g, 0 + i * 3 + t, none⟩).isSome = true ∧ w.drew.frozen? ⟨g, 0 + i * 3 + t, none⟩ = false) := by
    intro t ht
    refine ⟨?_, h.frozenAt _⟩
    show (w.cell? _).isSome = true
    rw [h.cellAt _ (by omega), List.getElem?_eq_getElem (by omega)]
    rfl
  obtain ⟨W1, hW1⟩ : ∃ W1, W1 = w.drew.setCells g (0 + i * 3) news := ⟨_, rfl⟩
  obtain ⟨ys, y1, y2, y3⟩ := own_setCells news (0 + i * 3) w.drew (flatA l) h.drew
  rw [← hW1] at y1
  have hys : ys.take ((n - 1) * 3) = flatA (l.eraseIdx i) := by
    rw [List.eraseIdx_eq_take_drop_succ, ← hj, flatA_append, ← hnews, ← flatA_take]
    apply List.ext_getElem?
    intro k
    rw [List.getElem?_take]
    by_cases hk : k < (n - 1) * 3
    · rw [if_pos hk, y3 k (by omega)]
      by_cases c : k < i * 3
      · rw [if_neg (by omega), List.getElem?_append_left (by rw [List.length_take]; omega), List.getElem?_take, if_pos c]
      · rw [if_pos (by omega), List.getElem?_append_right (by rw [List.length_take]; omega), List.length_take, Nat.min_eq_left (by omega), Nat.zero_add]
    · rw [if_neg hk, List.getElem?_eq_none]
      rw [List.length_append, List.length_take]
      omega
  have hcl := fun ty => clear73 y1 (i := n - 1) (by omega) ty
  rw [hys, show n - 1 = i + (n - j) by omega] at hcl
  obtain ⟨W2, w2, w3, w4⟩ := hcl 0
  have HE := Lib.hid (And.intro w3 w4)
  have hW : Hid (W1 = w.drew.setCells g (0 + i * 3) news) := hW1
  have HS := Lib.hid (show Same (· = g) w W1 by rw [hW1]; exact ((Same.refl (· = g) w).drew).trans (same_setCells g news _ _))
  obtain ⟨i0, hi0, hz⟩ : ∃ i0, Try.prog.info? 164 = some i0 ∧ i0.size = 3 := by
    have := info164
    cases e : Try.prog.info? 164 with
    | none => rw [e] at this; cases this
    | some i0 => rw [e] at this; exact ⟨i0, rfl, by simp at this; exact this.2.1⟩
  have mixed : Try.prog.follows Departure.mixedOrders = true := by kernel_rfl
  have hic : i ≤ cap := by omega
  have hjc : j ≤ cap := by omega
  have hjn : j ≤ n := by omega
  have hij : i ≤ j := by omega
  have hlt : i < j := by omega
  have hne : ((i : Int) == (j : Int)) = false := by rw [beq_eq_false_iff_ne]; omega
  have hcm2 : cap ≤ 9223372036854775807 := by omega
  have HN := Lib.hid (And.intro hn (And.intro hi hj))
  clear hj hn hfl hcm hnews hlen hget hW1 y1 y2 y3 hys hcl w3 w4 h
  go_enter Try.func100, Try.ntmps100
  go_wp2_with fail
  go_region_law_o (refine step_append_room rfl (.tmp 22) (.tmp 25) 73 rfl 164 i0 3 Try.under73 hi0 hz g 0 i cap (by simp [Act.eval, Act.put]) A (n - j) (cap - j) news (by simp [Act.eval, Act.put]) s1.out hsrc.out s2.out (by omega) s3.out ?_; rw [← hW.out])
  go_wp2
  go_ret
  obtain ⟨w3, w4⟩ := HE.out
  obtain ⟨e1, e2, e3⟩ := HN.out
  rw [show n - 1 = i + (n - j) by omega]
  exact ⟨rfl, w4, HS.out.trans w3⟩
end Go.Proofs.Ytlbgnmcjdmdjpaa
namespace Go.Proofs.Ytlbgnmcjdmdjpaa
open Go.RowKit Go.Shelf
attribute [local go_sem] Oper.semAt_some
/-- Is it what is attached at the page? -/
def det (page : Int) (x : Att) : Bool := decide (x.pg = page) && !decide (x.pg = 0 ∧ x.ct = 0 ∧ x.wr = false)
set_option maxRecDepth 8192 in
theorem clo99 (w : World) (b1 : Nat) (page : Int) (x : Att) (h1 : w.cell? ⟨b1, 0, none⟩ = some (.int .i64 page)) :
    Calls Try.prog 99 #[x.val, .pointer (some ⟨b1, 0, none⟩)] w fun e w' => e = .returned (.bool (det page x)) ∧ Same (fun _ => False) w w' := by
  have hsA : Same (fun _ => False) w (w.alloc (.cells #[.int .i64 x.pg, .int .i64 x.ct, .bool x.wr] 164)) := same_alloc _
  have l1 := World.block_lt_of_cell? _ _ h1
  simp only at l1
  unfold Att.val
  obtain ⟨B, hB⟩ : ∃ B, B = det page x := ⟨_, rfl⟩
  rw [← hB]
  unfold det at hB
  have HB := Lib.hid hB
  clear hB
  by_cases h2 : x.pg = page
  · have e1 : (x.pg == page) = true := by simpa using h2
    have H1 := Lib.hid h2
    clear h2
    go_enter Try.func99, Try.ntmps99
    go_wp2
    all_goals
      go_ret
      refine ⟨?_, same_alloc _⟩
      have hb := HB.out
      rw [decide_eq_true H1.out, Bool.true_and] at hb
      rw [hb]
      clear hsA HB e1 H1 hb l1 h1
      simp [*]
  · have e1 : (x.pg == page) = false := by simpa using h2
    have hb : B = false := by rw [HB.out]; simp [h2]
    subst hb
    go_enter Try.func99, Try.ntmps99
    go_wp2
    go_ret
    exact ⟨rfl, hsA⟩
/-- What Detach leaves and tells. -/
def DetQ (w : World) (f fb : Nat) (M : Mm) (s : Spc) (page : Int) (e : Ending) (w' : World) : Prop :=
  Same (· = fb) w w' ∧ (((∀ x ∈ s.atts, det page x = false) ∧ MemAt w' f fb M ∧ e = .returned (.tuple #[noSpc, .int .i64 2])) ∨
    ∃ (i : Nat) (x : Att) (v' : Value), s.atts[i]? = some x ∧ det page x = true ∧ (∀ j y, j < i → s.atts[j]? = some y → det page y = false) ∧ MemAt w' f fb (Mm.cutL s.root M (upFrom page x.ct.toNat)) ∧
      e = .returned (.tuple #[({ s with atts := s.atts.eraseIdx i } : Spc).val v', .int .i64 0]) ∧ AttO w' v' (s.atts.eraseIdx i))
set_option maxHeartbeats 3200000 in
set_option maxRecDepth 16384 in
theorem detach_any {w : World} {f fb : Nat} {M : Mm} (hM : MemAt w f fb M) (s : Spc) (va : Option Addr) (vc : Nat) (hv : AttO w (.slice va s.atts.length vc) s.atts) (hal : s.atts.length ≤ 500) (hok : AttsOk s.atts) (page : Int) (hp : In64 page) :
    Calls Try.prog 54 #[.pointer (some ⟨f, 0, none⟩), s.val (.slice va s.atts.length vc), .int .i64 page] w (DetQ w f fb M s page) := by
  have hlt := hM.lt
  have hlt0 := Lib.hid hlt
  obtain ⟨A, hA⟩ : ∃ A, A = ((w.alloc (.cells #[.int .i64 s.root, .int .i64 s.text, .int .i64 s.data, .int .i64 s.heap, .slice va s.atts.length vc] 75)).alloc (.cells #[.int .i64 page] 3)).alloc (.cells #[.int .i64 0, .int .i64 0, .int .i64 0, .int .i64 0, .slice none 0 0] 75) := ⟨_, rfl⟩
  have hsA : Same (fun _ => False) w A := by rw [hA]; exact ((same_alloc _).alloc _).alloc _
  have S0 : Five A w.heap.size (.int .i64 s.root) (.int .i64 s.text) (.int .i64 s.data) (.int .i64 s.heap) (.slice va s.atts.length vc) := by
    rw [hA]; exact ⟨by simp [go_sem], by simp [go_sem], by simp [go_sem], by simp [go_sem], by simp [go_sem], fun o => by simp [go_sem]⟩
  have R0 : Five A (w.heap.size + 1 + 1) (.int .i64 0) (.int .i64 0) (.int .i64 0) (.int .i64 0) (.slice none 0 0) := by
    rw [hA]; exact ⟨by simp [go_sem], by simp [go_sem], by simp [go_sem], by simp [go_sem], by simp [go_sem], fun o => by simp [go_sem]⟩
  have P0 : A.cell? ⟨w.heap.size + 1, 0, none⟩ = some (.int .i64 page) := by rw [hA]; simp [go_sem]
  have hzA : A.heap.size = w.heap.size + 3 := by rw [hA]; simp
  have hshs : A.shape? w.heap.size = some (75, 5) := by rw [hA]; rw [shape_alloc, if_neg (by simp; omega), shape_alloc, if_neg (by simp), shape_alloc, if_pos rfl]; rfl
  have hix := index99_any A (.slice va s.atts.length vc) s.atts (hv.same0 hsA) (by omega) (w.heap.size + 1) (det page) (fun W x hs hx => clo99 W _ page x (hs.cell P0 (fun h => h)))
  have H := Lib.hid (And.intro hM (And.intro hsA (And.intro S0 (And.intro R0 (And.intro P0 (And.intro hzA (And.intro hshs hok)))))))
  have HV := Lib.hid (And.intro hv (And.intro hal hp))
  unfold Spc.val
  have HIX := Lib.hid hix
  clear hM hsA S0 R0 P0 hzA hshs hix hv hal hp hok
  go_enter Try.func54, Try.ntmps54
  go_wp2_with fail
  rw [← hA]
  refine HIX.out.mono ?_
  rintro e w1 ⟨r, rfl, hr, hs1⟩
  obtain ⟨hM, hsA, S0, R0, P0, hzA, hshs, hok⟩ := H.out
  obtain ⟨hv, hal, hp⟩ := HV.out
  have S1 := S0.same hs1 (fun h => h)
  have R1 := R0.same hs1 (fun h => h)
  rcases hr with ⟨rfl, hall⟩ | ⟨i, x, rfl, hix, hdx, hbef⟩
  · have g0 := R1.c0
    have g1 := R1.c1
    have g2 := R1.c2
    have g3 := R1.c3
    have g4 := R1.c4
    have z0 := R1.fz 0
    have z1 := R1.fz 1
    have z2 := R1.fz 2
    have z3 := R1.fz 3
    have z4 := R1.fz 4
    have H1 := Lib.hid (And.intro hM (And.intro hsA (And.intro hs1 (And.intro hall R1))))
    clear hM hsA S0 R0 P0 hzA hshs hok hv hal hp S1 R1 hs1 hall
    go_wp2
    obtain ⟨W2, hW2⟩ : ∃ W, W = ((((w1.setCell ⟨w.heap.size + 1 + 1, 0, none⟩ (.int .i64 0)).setCell ⟨w.heap.size + 1 + 1, 1, none⟩ (.int .i64 0)).setCell ⟨w.heap.size + 1 + 1, 2, none⟩ (.int .i64 0)).setCell ⟨w.heap.size + 1 + 1, 3, none⟩ (.int .i64 0)).setCell ⟨w.heap.size + 1 + 1, 4, none⟩ (.slice none 0 0) := ⟨_, rfl⟩
    obtain ⟨hM, hsA, hs1, hall, R1⟩ := H1.out
    obtain ⟨F2, s2⟩ := five_set hW2 R1
    have hl := hM.lt
    have h01 : Same (fun _ => False) w w1 := hsA.trans hs1
    rw [← hW2]
    exact bodyPost_ret (results_ct rfl (by rfl) (loadVar75 _ _ _ _ _ _ _ F2.c0 F2.c1 F2.c2 F2.c3 F2.c4)) rfl ⟨(h01.mono (fun _ _ h => h.elim)).trans' s2 (fun b hb hlt => by omega), .inl ⟨hall, (hM.same0 h01).same s2 (by omega) (by omega), rfl⟩⟩
  · obtain ⟨o1, o2, o3, o4⟩ := hok x (List.mem_of_getElem? hix)
    have hpx : x.pg = page := by
      unfold det at hdx
      simp only [Bool.and_eq_true, decide_eq_true_eq] at hdx
      exact hdx.1
    obtain ⟨ct, hct⟩ := Int.eq_ofNat_of_zero_le o3
    have hil : i < s.atts.length := (List.getElem?_eq_some_iff.1 hix).1
    have hd : decide ((i : Int) < 0) = false := by simp
    have h01 : Same (fun _ => False) w w1 := hsA.trans hs1
    have hof := of_work (hM.same0 h01) s va s.atts.length vc
    unfold Spc.val at hof
    have f0 := S1.c0
    have f1 := S1.c1
    have f2 := S1.c2
    have f3 := S1.c3
    have f4 := S1.c4
    have HOF := Lib.hid hof
    have HX := Lib.hid (And.intro hix (And.intro hdx (And.intro hbef (And.intro hpx (And.intro hct (And.intro hil (show page ≤ 1000 ∧ 0 ≤ page ∧ ct ≤ 1000 by omega)))))))
    have H1 := Lib.hid (And.intro hM (And.intro h01 (And.intro S1 (And.intro R1 (And.intro (hs1.cell P0 (fun h => h)) (And.intro (show w.heap.size + 3 ≤ w1.heap.size by have := hs1.size; omega) ((hs1.shp _ (by omega)).trans hshs)))))))
    clear hM hsA S0 R0 P0 hzA hshs hok hv hal hp S1 R1 hs1 hix hdx hbef hpx hct hil o1 o2 o3 o4 h01 hof
    go_wp2_with fail
    refine HOF.out.mono ?_
    rintro e w2 ⟨wk, hwk, rfl, hW2, hs2⟩
    obtain ⟨hM, h01, S1, R1, P1, hz1, hsh1⟩ := H1.out
    obtain ⟨hix, hdx, hbef, hpx, hct, hil, hpb⟩ := HX.out
    obtain ⟨hv, hal, hp⟩ := HV.out
    have h02 := h01.trans hs2
    have S2 := S1.same hs2 (fun h => h)
    have P2 := hs2.cell P1 (fun h => h)
    have d0 := hW2.c0
    have d1 := hW2.c1
    have f4 := S2.c4
    have hlt := hlt0.out
    have hk0 : wk ≠ fb := by omega
    have hM2 := hM.same0 h02
    have hzz := World.block_lt_of_cell? _ _ d0
    obtain ⟨g, hg, hcc⟩ : ∃ g, va = some ⟨g, 0, none⟩ ∧ w2.cell? ⟨g, i * 3 + 1, none⟩ = some (.int .i64 (ct : Int)) := by
      obtain ⟨_, ⟨_, hnil⟩ | ⟨g, hg, _, hcells⟩⟩ := AttO.cells (hv.same0 h02)
      · rw [hnil] at hil; simp at hil
      · refine ⟨g, hg, ?_⟩
        have := hcells (3 * i + 1) _ (flatA_at _ _ _ hix).2.1
        rw [show 3 * i + 1 = i * 3 + 1 by omega, hct] at this
        exact this
    have hiI : (i : Int) < (s.atts.length : Int) := by omega
    have hi0 : (0 : Int) ≤ (i : Int) := by omega
    have H2 := Lib.hid (And.intro S2 (And.intro (R1.same hs2 (fun h => h)) (And.intro P2 (And.intro h02 (And.intro (show w.heap.size + 3 ≤ w2.heap.size by have := hs2.size; omega) (And.intro hk0 (And.intro d0 (And.intro d1 ((hs2.shp _ (by omega)).trans hsh1)))))))))
    have HM2 := Lib.hid hM2
    clear hM h01 S1 R1 P1 hz1 hsh1 hix hdx hbef hpx hct hpb hv hal hp h02 S2 hs2 hW2 f0 f1 f2 f3 hk0 hM2 hlt P2 d0 d1
    subst hg
    go_wp2
    go_loopw [30] (fun p wr => ∃ (k : Nat) (N : Mm), k ≤ ct ∧ p = .int .i64 k ∧ MemAt wr f fb N ∧ Mm.cutL s.root M (upFrom page ct) = Mm.cutL s.root N ((upFrom page ct).drop k) ∧ Same (· = fb) w2 wr) (fun p _ => ct - (intOf p).toNat)
    case atStart => exact ⟨0, M, by omega, rfl, HM2.out, rfl, Same.refl _ _⟩
    case round =>
      obtain ⟨k, N, hk, rfl, x1, x2, x3⟩ := hrel
      clear hcc f4
      by_cases hlt2 : k < ct
      · obtain ⟨S2, R2, P2, h02, hz2, hk0, d0, d1, hsh2⟩ := H2.out
        have hlt := hlt0.out
        have hb : decide ((k : Int) < (ct : Int)) = true := by simpa using hlt2
        have hpb := HX.out.2.2.2.2.2.2
        have y0 := x3.cell P2 (by simp; omega)
        have x5 := x3.cell d0 (by simpa using hk0)
        have x6 := x3.cell d1 (by simpa using hk0)
        have hwr : IntKind.i64.wrap (page + (k : Int)) = page + (k : Int) := IntWalk.i64_in _ (by omega)
        have hwk1 : IntKind.i64.wrap ((k : Int) + 1) = ((k + 1 : Nat) : Int) := by rw [IntWalk.i64_in _ (by omega)]; rfl
        rw [upFrom_drop page ct k hlt2, Mm.cutL] at x2
        have hua := Lib.hid (unmaps_any x1 x5 x6 hk0 (page + k) (by constructor <;> omega))
        have HY := Lib.hid (And.intro x2 x3)
        have HK := Lib.hid hlt2
        clear x1 x2 x3 x5 x6 S2 R2 P2 h02 hz2 hk0 d0 d1 hsh2 hlt hpb hlt2
        go_wp2_with fail
        refine hua.out.mono ?_
        rintro e w4 ⟨rfl, hM4, hs4⟩
        have H4 := Lib.hid (And.intro hM4 hs4)
        clear hM4 hs4 hua y0
        go_wp2
        go_roundw
        case rel => exact ⟨k + 1, _, by have := HK.out; omega, by go_num, H4.out.1, HY.out.1, HY.out.2.trans H4.out.2⟩
        case measure => have := HK.out; simp [intOf]; omega
      · obtain rfl : k = ct := by omega
        have hb : decide ((k : Int) < (k : Int)) = false := by simp
        obtain ⟨S2, R2, P2, h02, hz2, hk0, d0, d1, hsh2⟩ := H2.out
        obtain ⟨hv, hal, hp⟩ := HV.out
        have hlt := hlt0.out
        have S3 := S2.same x3 (by omega)
        have g0 := S3.c0
        have g1 := S3.c1
        have g2 := S3.c2
        have g3 := S3.c3
        have g4 := S3.c4
        have z0 := S3.fz 0
        have z1 := S3.fz 1
        have z2 := S3.fz 2
        have z3 := S3.fz 3
        have z4 := S3.fz 4
        have hvr : AttO wr (.slice (some ⟨g, 0, none⟩) s.atts.length vc) s.atts := (hv.same0 h02).same x3 (fun y hy m e => by
          subst hy
          obtain ⟨n, hn⟩ := HM2.out.sh
          rw [hn] at e; cases e)
        have how := Lib.hid (own_any wr s.root s.text s.data s.heap _ s.atts hvr (by omega))
        have hnil : (upFrom page k).drop k = [] := List.drop_eq_nil_of_le (by simp [upFrom])
        rw [hnil, Mm.cutL] at x2
        have H3 := Lib.hid (And.intro S3 (And.intro (R2.same x3 (by omega)) (And.intro x1 (And.intro x2 (And.intro ((h02.mono (fun _ _ h => h.elim)).trans x3) (And.intro ((x3.shp _ (by omega)).trans hsh2) (show w.heap.size + 3 ≤ wr.heap.size by have := x3.size; omega)))))))
        clear S2 R2 P2 h02 hz2 hk0 d0 d1 hsh2 hv hal hp hlt S3 hvr hnil x1 x2 x3 hlt2
        go_wp2_with fail
        refine how.out.mono ?_
        rintro e w4 ⟨v', rfl, hown, hs4⟩
        obtain ⟨S3, R3, x1, x2, h03, hsh3, hz3⟩ := H3.out
        obtain ⟨hix, hdx, hbef, hpx, hct, hil, hpb⟩ := HX.out
        obtain ⟨g', cap', rfl, hg'⟩ : ∃ g' cap', v' = .slice (some ⟨g', 0, none⟩) s.atts.length cap' ∧ wr.heap.size ≤ g' := by
          rcases hown.2 with ⟨_, h0⟩ | ⟨g', cap', cur, rfl, hb, _⟩
          · omega
          · exact ⟨g', cap', rfl, hb⟩
        have S4 := S3.same hs4 (fun h => h)
        obtain ⟨W5, hW5⟩ : ∃ W, W = ((((w4.setCell ⟨w.heap.size, 0, none⟩ (.int .i64 s.root)).setCell ⟨w.heap.size, 1, none⟩ (.int .i64 s.text)).setCell ⟨w.heap.size, 2, none⟩ (.int .i64 s.data)).setCell ⟨w.heap.size, 3, none⟩ (.int .i64 s.heap)).setCell ⟨w.heap.size, 4, none⟩ (.slice (some ⟨g', 0, none⟩) s.atts.length cap') := ⟨_, rfl⟩
        obtain ⟨F5, s5⟩ := five_set hW5 S4
        have hown5 := ownsRow_same hown s5 (fun x hx e => by simp only [Value.ownBlock, Option.some.injEq] at hx; omega)
        have hdel := Lib.hid (delete_att W5 wr.heap.size g' cap' s.atts hown5 i hil)
        have g0 := S4.c0
        have g1 := S4.c1
        have g2 := S4.c2
        have g3 := S4.c3
        have g4 := S4.c4
        have z0 := S4.fz 0
        have z1 := S4.fz 1
        have z2 := S4.fz 2
        have z3 := S4.fz 3
        have z4 := S4.fz 4
        have hlen := (HV.out).2.1
        have hwi : IntKind.i64.wrap ((i : Int) + 1) = ((i + 1 : Nat) : Int) := by rw [IntWalk.i64_in _ (by omega)]; rfl
        have hz4 := hs4.size
        have R4 := R3.same hs4 (fun h => h)
        have h04 := h03.trans (hs4.mono (T := (· = fb)) (fun _ _ h => h.elim))
        have H4 := Lib.hid (And.intro F5 (And.intro (R4.same s5 (by omega)) (And.intro (x1.same0 hs4) (And.intro x2 (And.intro h04 (And.intro s5 (And.intro ((s5.shp _ (by omega)).trans ((hs4.shp _ (by omega)).trans hsh3)) (And.intro hz3 hg'))))))))
        clear S3 R3 x1 x2 h03 hsh3 hz3 hix hdx hbef hpx hct hil hpb hg' S4 F5 s5 hown5 hown hlen hz4 R4 h04 hs4 how
        go_wp2_with fail
        rw [← hW5]
        refine hdel.out.mono ?_
        rintro e w6 ⟨rfl, hown6, hs6⟩
        obtain ⟨F5, R5, x1, x2, h04, s5, hsh5, hz3, hg'⟩ := H4.out
        have F6 := F5.same hs6 (by omega)
        have R6 := R5.same hs6 (by omega)
        have g0 := F6.c0
        have g1 := F6.c1
        have g2 := F6.c2
        have g3 := F6.c3
        have g4 := F6.c4
        have z4 := F6.fz 4
        have j0 := R6.c0
        have j1 := R6.c1
        have j2 := R6.c2
        have j3 := R6.c3
        have j4 := R6.c4
        have y0 := R6.fz 0
        have y1 := R6.fz 1
        have y2 := R6.fz 2
        have y3 := R6.fz 3
        have y4 := R6.fz 4
        have H6 := Lib.hid (And.intro hown6 (And.intro hs6 (And.intro F6 R6)))
        clear F5 R5 x1 x2 h04 s5 hsh5 hz3 hg' hown6 hs6 F6 R6 hW5 hdel
        go_wp2
        obtain ⟨hown6, hs6, F6, R6⟩ := H6.out
        obtain ⟨F5, R5, x1, x2, h04, s5, hsh5, hz3, hg'⟩ := H4.out
        obtain ⟨hix, hdx, hbef, hpx, hct, hil, hpb⟩ := HX.out
        have hlt := hlt0.out
        obtain ⟨W7, hW7⟩ : ∃ W, W = w6.setCell ⟨w.heap.size, 4, none⟩ (.slice (some ⟨g', 0, none⟩) (s.atts.length - 1) cap') := ⟨_, rfl⟩
        rw [← hW7]
        have s7 : Same (· = w.heap.size) w6 W7 := by rw [hW7]; exact (Same.refl (· = w.heap.size) w6).setCell _ (.inr rfl)
        obtain ⟨W8, hW8⟩ : ∃ W, W = ((((W7.setCell ⟨w.heap.size + 1 + 1, 0, none⟩ (.int .i64 s.root)).setCell ⟨w.heap.size + 1 + 1, 1, none⟩ (.int .i64 s.text)).setCell ⟨w.heap.size + 1 + 1, 2, none⟩ (.int .i64 s.data)).setCell ⟨w.heap.size + 1 + 1, 3, none⟩ (.int .i64 s.heap)).setCell ⟨w.heap.size + 1 + 1, 4, none⟩ (.slice (some ⟨g', 0, none⟩) (s.atts.length - 1) cap') := ⟨_, rfl⟩
        obtain ⟨F8, s8⟩ := five_set hW8 (R6.same s7 (by omega))
        rw [← hW8]
        have hl : (s.atts.eraseIdx i).length = s.atts.length - 1 := List.length_eraseIdx_of_lt hil
        refine bodyPost_ret (results_ct rfl (by rfl) (loadVar75 _ _ _ _ _ _ _ F8.c0 F8.c1 F8.c2 F8.c3 F8.c4)) rfl ⟨?_, .inr ⟨i, x, .slice (some ⟨g', 0, none⟩) (s.atts.length - 1) cap', hix, hdx, hbef, ?_, rfl, ?_⟩⟩
        · have t5 := h04.trans' s5 (fun b hb hlt => by omega)
          have t6 := t5.trans' hs6 (fun b hb hlt => by omega)
          have t7 := t6.trans' s7 (fun b hb hlt => by omega)
          exact t7.trans' s8 (fun b hb hlt => by omega)
        · rw [hct, Int.toNat_natCast, x2]
          exact (((x1.same s5 (by omega) (by omega)).same hs6 (by omega) (by omega)).same s7 (by omega) (by omega)).same s8 (by omega) (by omega)
        · have hnb : ∀ x, (Value.slice (some ⟨g', 0, none⟩) (s.atts.length - 1) cap').ownBlock = some x → x = g' := fun x hx => by simp only [Value.ownBlock, Option.some.injEq] at hx; omega
          have o7 := ownsRow_same hown6 s7 (fun x hx e => by have := hnb x hx; omega)
          have o8 := ownsRow_same o7 s8 (fun x hx e => by have := hnb x hx; omega)
          unfold AttO
          rw [hl]
          exact ownsRow_base o8 (Nat.zero_le _)
end Go.Proofs.Ytlbgnmcjdmdjpaa
namespace Go.Proofs.Ytlbgnmcjdmdjpaa
open Go.RowKit Go.Shelf
attribute [local go_sem] Oper.semAt_some
theorem Try.under91 : Try.prog.underlying 91 = some (.slice 75) := by kernel_rfl
theorem info75 : (Try.prog.info? 75).map (fun i => (i.zero, i.size, i.bytes)) = some (some (.agg #[.int .i64 0, .int .i64 0, .int .i64 0, .int .i64 0, .slice none 0 0]), 5, 56) := by kernel_rfl
theorem addn0 (b j : Nat) : (⟨b, 0, none⟩ : Addr).add j = ⟨b, j, none⟩ := by
  unfold Addr.add
  split
  · rename_i h; subst h; rfl
  · simp
def set5 (cs : List Value) (k : Nat) (v0 v1 v2 v3 v4 : Value) : List Value := ((((cs.set (k * 5) v0).set (k * 5 + 1) v1).set (k * 5 + 2) v2).set (k * 5 + 3) v3).set (k * 5 + 4) v4
set_option maxHeartbeats 3200000 in
set_option maxRecDepth 16384 in
theorem putS_any (w : World) (base : Nat) (a : Option Addr) (c : Nat) (n : Nat) (cs : List Value) (h : w.ownsRow base 75 5 (.slice a n c) n cs) (h1 : ∀ u ∈ cs, u.oneCell' = true) (hn : n ≤ 1000) (k : Nat) (hk : k < n) (r t d hp : Int) (va : Option Addr) (vn vc : Nat) :
    Calls Try.prog 55 #[.slice a n c, .int .i64 k, .agg #[.int .i64 r, .int .i64 t, .int .i64 d, .int .i64 hp, .slice va vn vc]] w fun e w' => ∃ g cap, e = .returned (.slice (some ⟨g, 0, none⟩) n cap) ∧
      w'.ownsRow w.heap.size 75 5 (.slice (some ⟨g, 0, none⟩) n cap) n (set5 cs k (.int .i64 r) (.int .i64 t) (.int .i64 d) (.int .i64 hp) (.slice va vn vc)) ∧ Same (fun _ => False) w w' := by
  obtain ⟨g, rfl, hg⟩ : ∃ g, a = some ⟨g, 0, none⟩ ∧ g < w.heap.size := by
    rcases h.2 with ⟨h', h0⟩ | ⟨g', cap', cur, h', hb, hg, _⟩
    · omega
    · simp only [Value.slice.injEq, true_and] at h'
      exact ⟨g', h'.1, by have := (Array.getElem?_eq_some_iff.1 hg).1; exact this⟩
  obtain ⟨W1, hW1⟩ : ∃ W, W = w.alloc (.cells #[.int .i64 r, .int .i64 t, .int .i64 d, .int .i64 hp, .slice va vn vc] 75) := ⟨_, rfl⟩
  have s1 : Same (fun _ => False) w W1 := by rw [hW1]; exact same_alloc _
  have F1 : Five W1 w.heap.size (.int .i64 r) (.int .i64 t) (.int .i64 d) (.int .i64 hp) (.slice va vn vc) := by rw [hW1]; exact five_new _ _ _ _ _ _
  have hz1 : W1.heap.size = w.heap.size + 1 := by rw [hW1]; simp
  obtain ⟨i0, hi0, hz0, hzs, hzb⟩ := info_parts info75
  obtain ⟨v2, W2, hrun, hown2, hs2, hfr⟩ := run_append_same (P := Try.prog) W1 w.heap.size 91 91 75 i0 (.agg #[.int .i64 0, .int .i64 0, .int .i64 0, .int .i64 0, .slice none 0 0]) 5 56 Try.under91 hi0 hz0 hzs hzb rfl (by decide) (.slice none 0 0) 0 [] (World.ownsRow_nil _ _ _ _) ⟨g, 0, none⟩ n c cs h.1
    (fun j u hu => by
      rw [addn0]
      refine s1.cell ?_ (fun h => h)
      have hj : j < n * 5 := by rw [← h.1]; exact (List.getElem?_eq_some_iff.1 hu).1
      rw [h.cellAt j hj]; exact hu) h1 (by unfold maxLen; omega) (by omega) (by omega)
  rw [Nat.zero_add, List.nil_append] at hown2
  obtain ⟨g2, c2, rfl⟩ : ∃ g2 c2, v2 = .slice (some ⟨g2, 0, none⟩) n c2 := by
    obtain ⟨m, rfl⟩ : ∃ m, n = m + 1 := ⟨n - 1, by omega⟩
    exact own_row_succ hown2
  have hg2 := (ownsRow_shape hown2 rfl).1
  have hz2 := hs2.size
  have F2 := F1.same hs2 (fun h => by cases h)
  have hs02 : Same (fun _ => False) w W2 := s1.trans (hs2.mono (fun _ _ h => by cases h))
  have hne : g2 ≠ w.heap.size := by
    have := hfr g2 rfl
    simp [Value.ownBlock] at this
    omega
  have hcs := h.1
  have k0 := F2.c0
  have k1 := F2.c1
  have k2 := F2.c2
  have k3 := F2.c3
  have k4 := F2.c4
  have q : ∀ o, o < 5 → ∃ u, W2.cell? ⟨g2, k * 5 + o, none⟩ = some u ∧ W2.frozen? ⟨g2, k * 5 + o, none⟩ = false := fun o ho => by
    have hj : k * 5 + o < n * 5 := by omega
    refine ⟨cs[k * 5 + o]'(by omega), ?_, hown2.frozenAt _⟩
    rw [hown2.cellAt _ hj]
    exact List.getElem?_eq_getElem _
  obtain ⟨u0, q0, z0⟩ := q 0 (by omega)
  obtain ⟨u1, q1, z1⟩ := q 1 (by omega)
  obtain ⟨u2, q2, z2⟩ := q 2 (by omega)
  obtain ⟨u3, q3, z3⟩ := q 3 (by omega)
  obtain ⟨u4, q4, z4⟩ := q 4 (by omega)
  rw [Nat.add_zero] at q0 z0
  have hkn : (k : Int) < (n : Int) := by omega
  have hk0 : (0 : Int) ≤ (k : Int) := by omega
  have HRUN := Lib.hid hrun
  have HW1 := Lib.hid hW1
  have HX := Lib.hid (And.intro hown2 (And.intro hs02 (And.intro hg2 (And.intro hne hz1))))
  clear hrun hW1 hown2 hs02 hg2 hne q F2 F1 s1 hs2 hz2 hcs h h1 hi0 hz0 hzs hzb hfr hz1
  go_enter Try.func55, Try.ntmps55
  go_wp2_with (at_builtin; refine stop_intro ?_)
  unfold Stop
  rw [← HW1.out]
  refine wpList_append_run rfl _ _ 91 rfl _ _ (by rfl) (by rfl) HRUN.out ?_
  go_wp2
  go_ret
  obtain ⟨hown2, hs02, hg2, hne, hz1⟩ := HX.out
  have o5 := (((((hown2.stored (k * 5) (.int .i64 r)).1).stored (k * 5 + 1) (.int .i64 t)).1.stored (k * 5 + 2) (.int .i64 d)).1.stored (k * 5 + 3) (.int .i64 hp)).1.stored (k * 5 + 4) (.slice va vn vc)
  refine ⟨g2, c2, rfl, o5.1, ?_⟩
  have hs5 : Same (· = g2) W2 (((((W2.setCell ⟨g2, k * 5, none⟩ (.int .i64 r)).setCell ⟨g2, k * 5 + 1, none⟩ (.int .i64 t)).setCell ⟨g2, k * 5 + 2, none⟩ (.int .i64 d)).setCell ⟨g2, k * 5 + 3, none⟩ (.int .i64 hp)).setCell ⟨g2, k * 5 + 4, none⟩ (.slice va vn vc)) :=
    (((((Same.refl (· = g2) W2).setCell _ (.inr rfl)).setCell _ (.inr rfl)).setCell _ (.inr rfl)).setCell _ (.inr rfl)).setCell _ (.inr rfl)
  exact hs02.trans' hs5 (fun b hb hlt => by omega)
end Go.Proofs.Ytlbgnmcjdmdjpaa
open Go Go.Proofs
namespace Go.Proofs.Ytlbgnmcjdmdjpaa
/-- A space that may be grown, forked, attached to. -/
structure SOk (j : Nat) (s : Spc) : Prop where
  r : ∃ r : Nat, s.root = r
  t0 : 0 ≤ s.text
  d0 : 0 ≤ s.data
  h0 : 0 ≤ s.heap
  e1 : s.end_ ≤ 128
  al : s.atts.length ≤ j
  ao : AttsOk s.atts
theorem SOk.more {i j : Nat} {s : Spc} (h : SOk i s) (hij : i ≤ j) : SOk j s := ⟨h.r, h.t0, h.d0, h.h0, h.e1, Nat.le_trans h.al hij, h.ao⟩
abbrev SpT := Spc × (Nat → Option Nat)
def rt (p : SpT) : Nat × (Nat → Option Nat) := (p.1.root.toNat, p.2)
structure DrI (M : Mm) (n j : Nat) (P : List SpT) : Prop where
  n : M.n = n
  good : M.Good (P.map rt) E4
  ok : ∀ p ∈ P, SOk j p.1
theorem DrI.eqv {M N : Mm} {n j : Nat} {P : List SpT} (h : DrI M n j P) (e : M.Eqv N) : DrI N n j P ∧ nfree N.R n = nfree M.R n := ⟨⟨e.n.trans h.n, e.good h.good, h.ok⟩, by rw [e.R]⟩
theorem DrI.more {M : Mm} {n i j : Nat} {P : List SpT} (h : DrI M n i P) (hij : i ≤ j) : DrI M n j P := ⟨h.n, h.good, fun p hp => (h.ok p hp).more hij⟩
theorem split_at {P : List SpT} {k : Nat} {x : SpT} (hk : P[k]? = some x) : ∃ P1 P2, P = P1 ++ x :: P2 ∧ P1.length = k := by
  obtain ⟨hlt, e⟩ := List.getElem?_eq_some_iff.1 hk
  refine ⟨P.take k, P.drop (k + 1), ?_, by rw [List.length_take]; omega⟩
  rw [← e, List.getElem_cons_drop, List.take_append_drop]
theorem DrI.at {M : Mm} {n j : Nat} {P : List SpT} (h : DrI M n j P) {k : Nat} {s : Spc} {T : Nat → Option Nat} (hk : P[k]? = some (s, T)) :
    ∃ (r : Nat) (Q : Sps), s.root = r ∧ M.Good ((r, T) :: Q) E4 ∧ SOk j s ∧ ∀ (N : Mm) (j' : Nat) (s' : Spc) (T' : Nat → Option Nat), N.n = M.n → s'.root = r → j ≤ j' → SOk j' s' → N.Good ((r, T') :: Q) E4 → DrI N n j' (P.set k (s', T')) := by
  obtain ⟨P1, P2, rfl, hl⟩ := split_at hk
  have hs := h.ok (s, T) (by simp)
  obtain ⟨r, hr⟩ := hs.r
  have hr : s.root = r := hr
  have hp : ∀ x : SpT, ((P1 ++ x :: P2).map rt).Perm (rt x :: (P1 ++ P2).map rt) := fun x => by
    rw [← List.map_cons]
    exact List.perm_middle.map rt
  have e1 : rt (s, T) = (r, T) := by unfold rt; simp only [hr, Int.toNat_natCast]
  refine ⟨r, (P1 ++ P2).map rt, hr, ?_, hs, fun N j' s' T' hn hr' hj hs' hg => ?_⟩
  · rw [← e1]; exact h.good.perm (hp _)
  · have e2 : rt (s', T') = (r, T') := by unfold rt; simp only [hr', Int.toNat_natCast]
    have e3 : (P1 ++ (s, T) :: P2).set k (s', T') = P1 ++ (s', T') :: P2 := by
      rw [← hl, List.set_append_right _ _ (Nat.le_refl _), Nat.sub_self]
      rfl
    rw [e3]
    refine ⟨hn.trans h.n, ?_, fun p hp' => ?_⟩
    · rw [← e2] at hg
      exact hg.perm (hp _).symm
    · rcases List.mem_append.1 hp' with q | q
      · exact (h.ok p (List.mem_append_left _ q)).more hj
      · rcases List.mem_cons.1 q with q | q
        · subst q; exact hs'
        · exact (h.ok p (List.mem_append_right _ (List.mem_cons_of_mem _ q))).more hj
theorem DrI.grow {M : Mm} {n j : Nat} {P : List SpT} (h : DrI M n j P) {k : Nat} {s : Spc} {T : Nat → Option Nat} (hk : P[k]? = some (s, T)) (x : Int) :
    ((M.grow s x).2 = 0 ∧ ∃ T', DrI (M.grow s x).1 n j (P.set k ({ s with heap := s.heap + x }, T'))) ∨ ((M.grow s x).2 ≠ 0 ∧ DrI (M.grow s x).1 n j P ∧ nfree (M.grow s x).1.R n = nfree M.R n) := by
  obtain ⟨r, Q, hr, hG, hs, hback⟩ := h.at hk
  unfold Mm.grow
  by_cases c : x < -s.heap ∨ 128 - s.end_ < x
  · rw [if_pos c]; exact .inr ⟨by show (2 : Int) ≠ 0; decide, h, rfl⟩
  rw [if_neg c, hr]
  rcases Mm.Good.growU (M0 := M) (upFrom s.end_ x.toNat) M T [] hG (Mm.Eqv.refl M) with ⟨a, T', g⟩ | ⟨a, b⟩
  · rw [if_pos a]
    obtain ⟨T2, g1, g2, _, _⟩ := Mm.Good.cutL (downFrom (s.end_ - 1) (-x).toNat) _ T' g.good
    refine .inl ⟨rfl, T2, hback _ j _ T2 (g2.n.trans g.ext.n) rfl (Nat.le_refl _) ⟨⟨r, rfl⟩, hs.t0, hs.d0, ?_, ?_, hs.al, hs.ao⟩ g1⟩
    · show 0 ≤ s.heap + x
      omega
    · show s.text + s.data + (s.heap + x) ≤ 128
      have : s.end_ = s.text + s.data + s.heap := rfl
      omega
  · rw [if_neg (by omega)]
    exact .inr ⟨by omega, h.eqv b⟩
theorem DrI.fork {M : Mm} {n j : Nat} {P : List SpT} (h : DrI M n j P) {k : Nat} {s : Spc} {T : Nat → Option Nat} (hk : P[k]? = some (s, T)) :
    ((M.fork s.root).2.2 = 0 ∧ ∃ T', DrI (M.fork s.root).1 n j (P ++ [({ s with root := (M.fork s.root).2.1 }, T')])) ∨ ((M.fork s.root).2.2 ≠ 0 ∧ DrI (M.fork s.root).1 n j P ∧ nfree (M.fork s.root).1.R n = nfree M.R n) := by
  have hs := h.ok (s, T) (List.mem_of_getElem? hk)
  obtain ⟨r, hr⟩ := hs.r
  simp only at hr
  have hm : (r, T) ∈ P.map rt := List.mem_map.2 ⟨(s, T), List.mem_of_getElem? hk, by unfold rt; simp only [hr, Int.toNat_natCast]⟩
  rw [hr]
  rcases h.good.fork hm with ⟨a, k', T', e, _, _, _, g, hn, _⟩ | ⟨a, b⟩
  · refine .inl ⟨a, T', hn.trans h.n, ?_, fun p hp => ?_⟩
    · rw [List.map_append]
      have e2 : rt ({ s with root := (M.fork r).2.1 }, T') = (k', T') := by unfold rt; simp only [e, Int.toNat_natCast]
      simp only [List.map_cons, List.map_nil, e2]
      exact g.perm (List.perm_append_singleton _ _).symm
    · rcases List.mem_append.1 hp with q | q
      · exact h.ok p q
      · rw [List.mem_singleton] at q
        subst q
        exact ⟨⟨k', e⟩, hs.t0, hs.d0, hs.h0, hs.e1, hs.al, hs.ao⟩
  · exact .inr ⟨by omega, h.eqv b⟩
theorem DrI.attach {M : Mm} {n j : Nat} {P : List SpT} (h : DrI M n j P) (h4 : 4 ≤ n) {k : Nat} {s : Spc} {T : Nat → Option Nat} (hk : P[k]? = some (s, T)) (page : Int) (l : List Int) (wr : Bool) (hl : GivenL l) :
    ((M.attach s page l wr).2 = 0 ∧ ∀ l', l'.Perm (s.atts ++ [⟨page, l.length, wr⟩]) → ∃ T', DrI (M.attach s page l wr).1 n (j + 1) (P.set k ({ s with atts := l' }, T'))) ∨ ((M.attach s page l wr).2 ≠ 0 ∧ DrI (M.attach s page l wr).1 n j P ∧ nfree (M.attach s page l wr).1.R n = nfree M.R n) := by
  obtain ⟨r, Q, hr, hG, hs, hback⟩ := h.at hk
  obtain ⟨l1, l2, l3⟩ := hl
  rcases hG.attach s hr page l wr (fun x hx => by
    obtain ⟨fr, e, hf⟩ := l3 x hx
    exact ⟨fr, e, by rw [h.n]; omega, by unfold E4; rw [if_pos hf]; omega⟩) with ⟨a, b1, b2, b3, T', g⟩ | ⟨a, b⟩
  · refine .inl ⟨a, fun l' hp => ⟨T', hback _ (j + 1) _ T' g.ext.n hr (by omega) ⟨hs.r, hs.t0, hs.d0, hs.h0, hs.e1, ?_, fun x hx => ?_⟩ g.good⟩⟩
    · have := hp.length_eq
      simp only [List.length_append, List.length_cons, List.length_nil] at this
      have := hs.al
      show l'.length ≤ j + 1
      omega
    · rcases List.mem_append.1 (hp.mem_iff.1 hx) with q | q
      · exact hs.ao x q
      · rw [List.mem_singleton] at q
        subst q
        simp only
        omega
  · exact .inr ⟨a, h.eqv b⟩
theorem DrI.detach {M : Mm} {n j : Nat} {P : List SpT} (h : DrI M n j P) {k : Nat} {s : Spc} {T : Nat → Option Nat} (hk : P[k]? = some (s, T)) (page : Int) (ct i : Nat) :
    ∃ T', DrI (Mm.cutL s.root M (upFrom page ct)) n j (P.set k ({ s with atts := s.atts.eraseIdx i }, T')) := by
  obtain ⟨r, Q, hr, hG, hs, hback⟩ := h.at hk
  rw [hr]
  obtain ⟨T2, g1, g2, _, _⟩ := Mm.Good.cutL (upFrom page ct) M T hG
  refine ⟨T2, hback _ j _ T2 g2.n rfl (Nat.le_refl _) ⟨⟨r, rfl⟩, hs.t0, hs.d0, hs.h0, hs.e1, ?_, fun x hx => hs.ao x (List.mem_of_mem_eraseIdx hx)⟩ g1⟩
  have := List.length_eraseIdx_le s.atts i
  have := hs.al
  show (s.atts.eraseIdx i).length ≤ j
  omega
theorem DrI.drop {M : Mm} {n j : Nat} {P : List SpT} {s : Spc} {T : Nat → Option Nat} (h : DrI M n j ((s, T) :: P)) : (M.dropSp s.root).2 = 0 ∧ DrI (M.dropSp s.root).1 n j P := by
  have hs := h.ok (s, T) List.mem_cons_self
  obtain ⟨r, hr⟩ := hs.r
  simp only at hr
  have hg := h.good
  have e1 : rt (s, T) = (r, T) := by unfold rt; simp only [hr, Int.toNat_natCast]
  rw [List.map_cons, e1] at hg
  rw [hr]
  obtain ⟨a, b, c, _⟩ := hg.dropSp
  exact ⟨a, c.trans h.n, b, fun p hp => h.ok p (List.mem_cons_of_mem _ hp)⟩
theorem DrI.done {M : Mm} {n j : Nat} (h : DrI M n j []) (h5 : 5 ≤ n) : nfree M.R n = nfree (Mm.taken n 4).R n ∧ M.refs 0 = 1 ∧ M.refs 3 = 1 := by
  have hR : ∀ x, x < n → M.R x = (E4 x : Int) := fun x hx => by
    have := h.good.cnt x (by rw [h.n]; exact hx)
    simpa [osum] using this
  refine ⟨?_, ?_, ?_⟩
  · refine nfree_congr n (fun i hi => ?_)
    rw [hR i hi, taken_R]
    unfold E4
    by_cases c : i < 4
    · rw [if_pos c, if_pos c]; decide
    · rw [if_neg c, if_neg c]; decide
  · have h0 := hR 0 (by omega)
    have hu : M.isUsed ((0 : Nat) : Int) = true := Mm.isUsed_nat (by rw [h.n]; omega) (by rw [h0]; decide)
    have hu : M.isUsed 0 = true := hu
    unfold Mm.refs
    rw [hu, if_pos rfl]
    exact h0
  · have h0 := hR 3 (by omega)
    have hu : M.isUsed ((3 : Nat) : Int) = true := Mm.isUsed_nat (by rw [h.n]; omega) (by rw [h0]; decide)
    have hu : M.isUsed 3 = true := hu
    unfold Mm.refs
    rw [hu, if_pos rfl]
    exact h0
theorem drops_start (n : Nat) (h5 : 5 ≤ n) (h90 : n ≤ 90) (t : ByteArray) (ht : t.size ≤ 200) :
    (((Mm.taken n 4).exec t ByteArray.empty).2.2 = 0 ∧ ∃ T, DrI ((Mm.taken n 4).exec t ByteArray.empty).1 n 0 [(⟨((Mm.taken n 4).exec t ByteArray.empty).2.1, (spn 0 t.size : Nat), 0, 0, []⟩, T)]) ∨
    (((Mm.taken n 4).exec t ByteArray.empty).2.2 = 11 ∧ ((Mm.taken n 4).exec t ByteArray.empty).1.n = n ∧ nfree ((Mm.taken n 4).exec t ByteArray.empty).1.R n = nfree (Mm.taken n 4).R n) := by
  have g0 : (Mm.taken n 4).Good [] E4 := taken_good n (by omega) 4 (by omega)
  rcases g0.exec t ByteArray.empty with ⟨a, k, T, hk, hB, _⟩ | ⟨a, b⟩
  · refine .inl ⟨a, T, hB.n.trans (taken_n n 4), ?_, fun p hp => ?_⟩
    · have e1 : rt (⟨((Mm.taken n 4).exec t ByteArray.empty).2.1, (spn 0 t.size : Nat), 0, 0, []⟩, T) = (k, T) := by unfold rt; simp only [hk, Int.toNat_natCast]
      simp only [List.map_cons, List.map_nil, e1]
      exact hB.good
    · rw [List.mem_singleton] at hp
      subst hp
      have hs : spn 0 t.size ≤ 4 := by unfold spn; split <;> omega
      refine ⟨⟨k, hk⟩, by simp only; omega, by simp, by simp, ?_, by simp, fun x hx => by cases hx⟩
      show ((spn 0 t.size : Nat) : Int) + 0 + 0 ≤ 128
      omega
  · exact .inr ⟨a, b.n.trans (taken_n n 4), by rw [b.R]⟩
end Go.Proofs.Ytlbgnmcjdmdjpaa
namespace Go.Proofs.Ytlbgnmcjdmdjpaa
open Go.RowKit Go.Shelf
attribute [local go_sem] Oper.semAt_some
abbrev Sp4 := SpT × Option Addr × Nat
def spCells (p : Sp4) : List Value := [.int .i64 p.1.1.root, .int .i64 p.1.1.text, .int .i64 p.1.1.data, .int .i64 p.1.1.heap, .slice p.2.1 p.1.1.atts.length p.2.2]
def flatS (Q : List Sp4) : List Value := Q.flatMap spCells
theorem flatS_cons (p : Sp4) (Q : List Sp4) : flatS (p :: Q) = .int .i64 p.1.1.root :: .int .i64 p.1.1.text :: .int .i64 p.1.1.data :: .int .i64 p.1.1.heap :: .slice p.2.1 p.1.1.atts.length p.2.2 :: flatS Q := rfl
theorem flatS_append (P Q : List Sp4) : flatS (P ++ Q) = flatS P ++ flatS Q := by simp [flatS]
theorem flatS_one : ∀ Q : List Sp4, ∀ u ∈ flatS Q, u.oneCell' = true
  | [], u, hu => by cases hu
  | p :: Q, u, hu => by
    rw [flatS_cons] at hu
    simp only [List.mem_cons] at hu
    rcases hu with rfl | rfl | rfl | rfl | rfl | hu
    · rfl
    · rfl
    · rfl
    · rfl
    · rfl
    · exact flatS_one Q u hu
theorem flatS_at : ∀ (Q : List Sp4) (k : Nat) (p : Sp4), Q[k]? = some p → (flatS Q)[k * 5]? = some (.int .i64 p.1.1.root) ∧ (flatS Q)[k * 5 + 1]? = some (.int .i64 p.1.1.text) ∧ (flatS Q)[k * 5 + 2]? = some (.int .i64 p.1.1.data) ∧ (flatS Q)[k * 5 + 3]? = some (.int .i64 p.1.1.heap) ∧ (flatS Q)[k * 5 + 4]? = some (.slice p.2.1 p.1.1.atts.length p.2.2)
  | [], k, p, h => by cases h
  | q :: Q, 0, p, h => by cases h; exact ⟨rfl, rfl, rfl, rfl, rfl⟩
  | q :: Q, k + 1, p, h => by
    have ih := flatS_at Q k p h
    rw [flatS_cons]
    simp only [show (k + 1) * 5 = k * 5 + 5 by omega, show k * 5 + 5 + 1 = (k * 5 + 1) + 5 by omega, show k * 5 + 5 + 2 = (k * 5 + 2) + 5 by omega, show k * 5 + 5 + 3 = (k * 5 + 3) + 5 by omega, show k * 5 + 5 + 4 = (k * 5 + 4) + 5 by omega, List.getElem?_cons_succ]
    exact ih
theorem flatS_set : ∀ (Q : List Sp4) (k : Nat) (p : Sp4), k < Q.length → set5 (flatS Q) k (.int .i64 p.1.1.root) (.int .i64 p.1.1.text) (.int .i64 p.1.1.data) (.int .i64 p.1.1.heap) (.slice p.2.1 p.1.1.atts.length p.2.2) = flatS (Q.set k p)
  | [], k, p, h => by simp at h
  | q :: Q, 0, p, h => rfl
  | q :: Q, k + 1, p, h => by
    have ih := flatS_set Q k p (by simpa using h)
    rw [List.set_cons_succ, flatS_cons, flatS_cons, ← ih]
    unfold set5
    simp only [show (k + 1) * 5 = k * 5 + 5 by omega, show k * 5 + 5 + 1 = (k * 5 + 1) + 5 by omega, show k * 5 + 5 + 2 = (k * 5 + 2) + 5 by omega, show k * 5 + 5 + 3 = (k * 5 + 3) + 5 by omega, show k * 5 + 5 + 4 = (k * 5 + 4) + 5 by omega, List.set_cons_succ]
/-- The list in the world. -/
structure DrV (X W : World) (v : Value) (Q : List Sp4) : Prop where
  own : W.ownsRow X.heap.size 75 5 v Q.length (flatS Q)
  att : ∀ q ∈ Q, AttO W (.slice q.2.1 q.1.1.atts.length q.2.2) q.1.1.atts
theorem DrV.same {X W W' : World} {v : Value} {Q : List Sp4} {S : Nat → Prop} (h : DrV X W v Q) (hs : Same S W W') (h1 : ∀ g, v.ownBlock = some g → ¬ S g) (h2 : ∀ k, S k → ∀ n, W.shape? k ≠ some (164, n)) : DrV X W' v Q :=
  ⟨ownsRow_same h.own hs h1, fun q hq => (h.att q hq).same hs h2⟩
theorem DrV.same0 {X W W' : World} {v : Value} {Q : List Sp4} (h : DrV X W v Q) (hs : Same (fun _ => False) W W') : DrV X W' v Q := h.same hs (fun _ _ h => h) (fun _ h => h.elim)
theorem DrV.ge {X W : World} {v : Value} {Q : List Sp4} (h : DrV X W v Q) {g : Nat} (hg : v.ownBlock = some g) : X.heap.size ≤ g ∧ ∃ k, W.shape? g = some (75, k) := ⟨(ownsRow_shape h.own hg).1, (ownsRow_shape h.own hg).2.2⟩
theorem DrV.mem {X W W' : World} {v : Value} {Q : List Sp4} {f fb : Nat} {M : Mm} (h : DrV X W v Q) (hM : MemAt W f fb M) (hfb : fb < X.heap.size) (hs : Same (· = fb) W W') : DrV X W' v Q :=
  h.same hs (fun g hg e => by have := (h.ge hg).1; omega) (fun k e n hn => by subst e; obtain ⟨m, hm⟩ := hM.sh; rw [hm] at hn; cases hn)
/-- Stores into a space's box leave the list alone. -/
theorem DrV.box {X W W' : World} {v : Value} {Q : List Sp4} {b : Nat} (h : DrV X W v Q) (hs : Same (· = b) W W') (hb : W.shape? b = some (75, 5)) (hne : v.ownBlock ≠ some b) : DrV X W' v Q :=
  h.same hs (fun g hg e => by subst e; exact hne hg) (fun k e n hn => by subst e; rw [hb] at hn; cases hn)
/-- An act. -/
structure ActE (w : World) (b : Addr) (d p q K : Int) (wr : Bool) (st : ByteArray) : Prop where
  c0 : w.cell? b = some (.int .i64 d)
  c1 : w.cell? ⟨b.block, b.off + 1, none⟩ = some (.int .i64 p)
  c2 : w.cell? ⟨b.block, b.off + 2, none⟩ = some (.int .i64 q)
  c3 : w.cell? ⟨b.block, b.off + 3, none⟩ = some (.int .i64 K)
  c4 : w.cell? ⟨b.block, b.off + 4, none⟩ = some (.bool wr)
  c5 : w.cell? ⟨b.block, b.off + 5, none⟩ = some (.string st)
theorem ActE.kept {w w' : World} {S : Nat → Prop} {b : Addr} {d p q K : Int} {wr : Bool} {st : ByteArray} (h : ActE w b d p q K wr st) (hs : Same S w w') (hb : ¬ S b.block) : ActE w' b d p q K wr st :=
  ⟨hs.cell h.c0 hb, hs.cell h.c1 hb, hs.cell h.c2 hb, hs.cell h.c3 hb, hs.cell h.c4 hb, hs.cell h.c5 hb⟩
theorem ActE.lt {w : World} {b : Addr} {d p q K : Int} {wr : Bool} {st : ByteArray} (h : ActE w b d p q K wr st) : b.block < w.heap.size := World.block_lt_of_cell? _ _ h.c0
def ActsE (w : World) (a : Option Addr) (len : Nat) : Prop := ∀ i, i < len → ∃ A d p q K wr st, a = some A ∧ ActE w (A.add (i * 6)) d p q K wr st ∧ In64 d ∧ In64 p ∧ In64 q ∧ In64 K
/-- uint(a) % uint(n) as an int. -/
theorem umod (p : Int) (n : Nat) (h0 : 0 < n) (h1 : n ≤ 1000) : ∃ k : Nat, k < n ∧ IntKind.i64.wrap ((IntKind.u64.wrap p).tmod (IntKind.u64.wrap (n : Int))) = (k : Int) := by
  have e1 : IntKind.u64.wrap (n : Int) = n := by
    have : IntKind.u64.wrap (n : Int) = (n : Int) % 2 ^ 64 := rfl
    rw [this]; omega
  have e2 : 0 ≤ IntKind.u64.wrap p := by
    have : IntKind.u64.wrap p = p % 2 ^ 64 := rfl
    rw [this]; omega
  obtain ⟨m, hm⟩ := Int.eq_ofNat_of_zero_le e2
  rw [e1, hm]
  have e3 : ((m : Int).tmod (n : Int)) = ((m % n : Nat) : Int) := by rw [Int.tmod_eq_emod_of_nonneg (by omega)]; rfl
  refine ⟨m % n, Nat.mod_lt _ h0, ?_⟩
  rw [e3]
  have := Nat.mod_lt m h0
  exact IntWalk.i64_in _ (by omega)
end Go.Proofs.Ytlbgnmcjdmdjpaa
namespace Go.Proofs.Ytlbgnmcjdmdjpaa
open Go.RowKit Go.Shelf
attribute [local go_sem] Oper.semAt_some
theorem and3 (n : Int) : bits .and .i64 n 3 = n % 4 := by
  have h3 : (BitVec.ofInt 64 3).toNat = 2 ^ 2 - 1 := by decide
  have key : (BitVec.ofInt 64 n &&& BitVec.ofInt 64 3).toNat = (n % ((2 ^ 64 : Nat) : Int)).toNat % 2 ^ 2 := by
    rw [BitVec.toNat_and, BitVec.toNat_ofInt, h3, Nat.and_two_pow_sub_one_eq_mod]
  show IntKind.i64.wrap ((BitVec.ofInt 64 n &&& BitVec.ofInt 64 3).toNat : Nat) = n % 4
  rw [key, IntKind.wrap_i64]
  omega
theorem given_all (w : World) (q : Int) (m : Nat) (hm : q % 4 = m) : Calls Try.prog 52 #[.int .i64 q] w fun e w' => e = .returned (.slice (some ⟨w.heap.size, 0, none⟩) (m + 1) 4) ∧ IntsO w' (some ⟨w.heap.size, 0, none⟩) (givenF.take (m + 1)) ∧ Same (fun _ => False) w w' := by
  have key : IntsO (w.alloc (.cells #[.int .i64 0, .int .i64 1, .int .i64 2, .int .i64 3] 3)) (some ⟨w.heap.size, 0, none⟩) (givenF.take (m + 1)) := by
    refine .inr ⟨_, rfl, by simp, ⟨4, by rw [shape_alloc, if_pos rfl]; rfl⟩, fun i x hx => ?_⟩
    rw [World.cell?_alloc_at _ _ _ _ rfl]
    have hx2 : givenF[i]? = some x := by
      rw [List.getElem?_take] at hx
      split at hx
      · exact hx
      · cases hx
    unfold givenF at hx2
    rcases i with _ | _ | _ | _ | i
    all_goals first | (cases hx2; rfl) | (simp at hx2)
  have K := Lib.hid key
  have b := and3 q
  rw [hm] at b
  have c1 : wrap64 (1 + 0) = 1 := by decide +kernel
  have c2 : wrap64 (1 + 1) = 2 := by decide +kernel
  have c3 : wrap64 (1 + 2) = 3 := by decide +kernel
  have c4 : wrap64 (1 + 3) = 4 := by decide +kernel
  clear key
  have hm4 : m < 4 := by omega
  rcases m with _ | _ | _ | _ | m
  all_goals first | omega | skip
  all_goals
    clear hm hm4
    go_enter Try.func52, Try.ntmps52
    go_wp2
    go_ret
    exact ⟨by first | rfl | simp [b, c1, c2, c3, c4], K.out, same_alloc _⟩
theorem step_callE {P : Program} {ops : Array Oper} {o : Oper} {a : Act} {w : World} {K : Act → World → Prop} {Q : Exit → Act → World → Prop} {E : Prop} {Post : Value → World → Prop}
    (hg : o.guard = none) (f : FuncId) (x y z : Operand) (ts : Array TypeId) (hop : o.op = Op.call { callee := Callee.value (Operand.func f), args := #[x, y, z], argTypes := ts }) (hent : ∀ args w, (callFunc f args).run P w = .ok (.enter f args) w)
    (vx vy vz : Value) (hx : a.eval x = vx) (hy : a.eval y = vy) (hz : a.eval z = vz) (hc : Calls P f #[vx, vy, vz] w fun e w' => ∃ v, e = .returned v ∧ Post v w') (hK : ∀ v w', Post v w' → K (a.put o.dst v) w') :
    if Region.wanted o (yielded ops a.tmps) = true then Oper.wp P o a w K Q else E := by
  have hw : Region.wanted o (yielded ops a.tmps) = true := by simp [Region.wanted, hg]
  rw [if_pos hw]
  unfold Oper.wp
  have hrun : (execOp a.eval o).run P w = .ok (.enter f #[vx, vy, vz]) w := by
    have hf : a.eval (Operand.func f) = .func (.func f) #[] #[] := rfl
    simp [execOp, hop, resolve, invoke, hent, hx, hy, hz, hf, Result.andThen, Deferred.ofValue]
  rw [hrun, Oper.upon_enter]
  refine hc.mono ?_
  rintro e w' ⟨v, rfl, hp⟩
  exact hK v w' hp
theorem step_call1E {P : Program} {ops : Array Oper} {o : Oper} {a : Act} {w : World} {K : Act → World → Prop} {Q : Exit → Act → World → Prop} {E : Prop} {Post : Value → World → Prop}
    (hg : o.guard = none) (f : FuncId) (x : Operand) (ts : Array TypeId) (hop : o.op = Op.call { callee := Callee.value (Operand.func f), args := #[x], argTypes := ts }) (hent : ∀ args w, (callFunc f args).run P w = .ok (.enter f args) w)
    (vx : Value) (hx : a.eval x = vx) (hc : Calls P f #[vx] w fun e w' => ∃ v, e = .returned v ∧ Post v w') (hK : ∀ v w', Post v w' → K (a.put o.dst v) w') :
    if Region.wanted o (yielded ops a.tmps) = true then Oper.wp P o a w K Q else E := by
  have hw : Region.wanted o (yielded ops a.tmps) = true := by simp [Region.wanted, hg]
  rw [if_pos hw]
  unfold Oper.wp
  have hrun : (execOp a.eval o).run P w = .ok (.enter f #[vx]) w := by
    have hf : a.eval (Operand.func f) = .func (.func f) #[] #[] := rfl
    simp [execOp, hop, resolve, invoke, hent, hx, hf, Result.andThen, Deferred.ofValue]
  rw [hrun, Oper.upon_enter]
  refine hc.mono ?_
  rintro e w' ⟨v, rfl, hp⟩
  exact hK v w' hp
theorem step_call5E {P : Program} {ops : Array Oper} {o : Oper} {a : Act} {w : World} {K : Act → World → Prop} {Q : Exit → Act → World → Prop} {E : Prop} {Post : Value → World → Prop}
    (hg : o.guard = none) (f : FuncId) (x y z s t : Operand) (ts : Array TypeId) (hop : o.op = Op.call { callee := Callee.value (Operand.func f), args := #[x, y, z, s, t], argTypes := ts }) (hent : ∀ args w, (callFunc f args).run P w = .ok (.enter f args) w)
    (vx vy vz vs vt : Value) (hx : a.eval x = vx) (hy : a.eval y = vy) (hz : a.eval z = vz) (hs : a.eval s = vs) (ht : a.eval t = vt) (hc : Calls P f #[vx, vy, vz, vs, vt] w fun e w' => ∃ v, e = .returned v ∧ Post v w') (hK : ∀ v w', Post v w' → K (a.put o.dst v) w') :
    if Region.wanted o (yielded ops a.tmps) = true then Oper.wp P o a w K Q else E := by
  have hw : Region.wanted o (yielded ops a.tmps) = true := by simp [Region.wanted, hg]
  rw [if_pos hw]
  unfold Oper.wp
  have hrun : (execOp a.eval o).run P w = .ok (.enter f #[vx, vy, vz, vs, vt]) w := by
    have hf : a.eval (Operand.func f) = .func (.func f) #[] #[] := rfl
    simp [execOp, hop, resolve, invoke, hent, hx, hy, hz, hs, ht, hf, Result.andThen, Deferred.ofValue]
  rw [hrun, Oper.upon_enter]
  refine hc.mono ?_
  rintro e w' ⟨v, rfl, hp⟩
  exact hK v w' hp
/-- What Attach leaves and tells, whether to write or not. -/
structure AttR (W0 W : World) (f fb : Nat) (s : Spc) (page : Int) (gl : List Int) (wr : Bool) (R : Mm × Int) (r t d h : Int) (va : Option Addr) (vn vc : Nat) (er : Int) : Prop where
  mem : MemAt W f fb R.1
  same : Same (· = fb) W0 W
  er : er = R.2
  ok : R.2 = 0 → ∃ l', r = s.root ∧ t = s.text ∧ d = s.data ∧ h = s.heap ∧ AttO W (.slice va vn vc) l' ∧ l'.Perm (s.atts ++ [⟨page, gl.length, wr⟩])
theorem att_rawR {W0 W W1 : World} {f fb : Nat} {M : Mm} (hM : MemAt W0 f fb M) (s : Spc) (va : Option Addr) (vc : Nat) (hv : AttO W0 (.slice va s.atts.length vc) s.atts) (hal : s.atts.length ≤ 500) (page : Int) (hp : In64 page) (g : Option Addr) (c : Nat) (gl : List Int) (hll : gl.length ≤ 1000) (wr : Bool)
    (hs1 : Same (fun _ => False) W0 W1) (hi : Hid (IntsO W1 g gl)) (hs : Same (fun _ => False) W1 W) :
    Calls Try.prog 51 #[.pointer (some ⟨f, 0, none⟩), .agg #[.int .i64 s.root, .int .i64 s.text, .int .i64 s.data, .int .i64 s.heap, .slice va s.atts.length vc], .int .i64 page, .slice g gl.length c, .bool wr] W fun e w' =>
      ∃ r t d h ua un uc er, e = .returned (.tuple #[.agg #[.int .i64 r, .int .i64 t, .int .i64 d, .int .i64 h, .slice ua un uc], .int .i64 er]) ∧ AttR W0 w' f fb s page gl wr (M.attach s page gl wr) r t d h ua un uc er := by
  have hs01 := hs1.trans hs
  refine (attach_any (hM.same0 hs01) s va vc (hv.same0 hs01) hal page hp g c gl (hi.out.same0 hs) hll wr).mono ?_
  rintro e w' ⟨hM', hs', ⟨h0, v', l', rfl, hv', hp', _⟩ | ⟨h0, rfl⟩⟩
  · obtain ⟨ua, un, uc, rfl⟩ := atto_slice hv'
    exact ⟨_, _, _, _, _, _, _, _, rfl, ⟨hM', (hs01.mono (fun _ _ h => h.elim)).trans hs', h0.symm, fun _ => ⟨l', rfl, rfl, rfl, rfl, hv', hp'⟩⟩⟩
  · exact ⟨0, 0, 0, 0, none, 0, 0, _, rfl, ⟨hM', (hs01.mono (fun _ _ h => h.elim)).trans hs', rfl, fun h => absurd h h0⟩⟩
theorem keep3 {W : World} {b b0 : Nat} {x y z u0 u1 u2 u3 u4 : Value} (hne : ¬ b0 = b) (h2 : W.cell? ⟨b0, 2, none⟩ = some x) (h3 : W.cell? ⟨b0, 3, none⟩ = some y) (h4 : W.cell? ⟨b0, 4, none⟩ = some z) :
    (((((W.setCell ⟨b, 0, none⟩ u0).setCell ⟨b, 1, none⟩ u1).setCell ⟨b, 2, none⟩ u2).setCell ⟨b, 3, none⟩ u3).setCell ⟨b, 4, none⟩ u4).cell? ⟨b0, 2, none⟩ = some x ∧ (((((W.setCell ⟨b, 0, none⟩ u0).setCell ⟨b, 1, none⟩ u1).setCell ⟨b, 2, none⟩ u2).setCell ⟨b, 3, none⟩ u3).setCell ⟨b, 4, none⟩ u4).cell? ⟨b0, 3, none⟩ = some y ∧
    (((((W.setCell ⟨b, 0, none⟩ u0).setCell ⟨b, 1, none⟩ u1).setCell ⟨b, 2, none⟩ u2).setCell ⟨b, 3, none⟩ u3).setCell ⟨b, 4, none⟩ u4).cell? ⟨b0, 4, none⟩ = some z := by
  have hs : Same (· = b) W (((((W.setCell ⟨b, 0, none⟩ u0).setCell ⟨b, 1, none⟩ u1).setCell ⟨b, 2, none⟩ u2).setCell ⟨b, 3, none⟩ u3).setCell ⟨b, 4, none⟩ u4) := (((((Same.refl (· = b) W).setCell _ (.inr rfl)).setCell _ (.inr rfl)).setCell _ (.inr rfl)).setCell _ (.inr rfl)).setCell _ (.inr rfl)
  exact ⟨hs.cell h2 hne, hs.cell h3 hne, hs.cell h4 hne⟩
end Go.Proofs.Ytlbgnmcjdmdjpaa
namespace Go.Proofs.Ytlbgnmcjdmdjpaa
open Go.RowKit Go.Shelf Go.ChangeShapes Go.WideShapes Go.Deep
section
variable {H : Type} {enc : TypeId × Value → H} {w : World} {base : Nat} {spare : Nat → Bool} {held : Bool}
theorem rows_actsE {fuel : Nat} {v : Value} {x : DataW H × List MemPlace} (h : DataW.trod enc Try.prog w base spare held fuel 90 [v] = some x) :
    ∃ (a : Option Addr) (len cap : Nat), v = .slice a len cap ∧ len ≤ maxLen ∧ ActsE w a len := by
  have hu : Try.prog.underlying 90 = some (.slice 93) := by kernel_rfl
  rcases open_rows hu h with rfl | ⟨a, len, cap, rfl, h1, h2, h3⟩
  · exact ⟨none, 0, 0, rfl, Nat.zero_le _, fun i hi => by omega⟩
  · refine ⟨some a, len, cap, rfl, by omega, fun i hi => ?_⟩
    obtain ⟨cs, m, y, h4, h5⟩ := h3 i hi
    have hc : Try.prog.cellsOf 93 = 6 := by kernel_rfl
    rw [hc] at h4
    obtain ⟨K0, e0, i0⟩ := leaf_int (P := Try.prog) (n := 4) (t := 93) (j := 0) (t' := 3) (k := .i64) (by kernel_rfl) Try.underlying3 h5
    obtain ⟨K1, e1, i1⟩ := leaf_int (P := Try.prog) (n := 4) (t := 93) (j := 1) (t' := 3) (k := .i64) (by kernel_rfl) Try.underlying3 h5
    obtain ⟨K2, e2, i2⟩ := leaf_int (P := Try.prog) (n := 4) (t := 93) (j := 2) (t' := 3) (k := .i64) (by kernel_rfl) Try.underlying3 h5
    obtain ⟨K3, e3, i3⟩ := leaf_int (P := Try.prog) (n := 4) (t := 93) (j := 3) (t' := 3) (k := .i64) (by kernel_rfl) Try.underlying3 h5
    obtain ⟨B4, e4⟩ := leaf_bool (P := Try.prog) (n := 4) (t := 93) (j := 4) (t' := 4) (by kernel_rfl) Try.underlying4 h5
    obtain ⟨K5, e5, _⟩ := leaf_string (P := Try.prog) (n := 4) (t := 93) (j := 5) (t' := 9) (by kernel_rfl) Try.underlying9 h5
    have g0 := (h4 0 (by omega)).trans e0
    have g1 := (h4 1 (by omega)).trans e1
    have g2 := (h4 2 (by omega)).trans e2
    have g3 := (h4 3 (by omega)).trans e3
    have g4 := (h4 4 (by omega)).trans e4
    have g5 := (h4 5 (by omega)).trans e5
    rw [← add_add2] at g1 g2 g3 g4 g5
    exact ⟨a, K0, K1, K2, K3, B4, K5, rfl, ⟨g0, g1, g2, g3, g4, g5⟩, in64 i0, in64 i1, in64 i2, in64 i3⟩
end
end Go.Proofs.Ytlbgnmcjdmdjpaa
