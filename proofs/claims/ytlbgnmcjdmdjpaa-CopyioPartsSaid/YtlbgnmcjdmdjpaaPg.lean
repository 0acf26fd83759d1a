/- The walk of Pages. Conditions: the memory's form. -/
import Derived.Test.YtlbgnmcjdmdjpaaTr
import Derived.Test.YtlbgnmcjdmdjpaaAp
namespace Go.Proofs.Ytlbgnmcjdmdjpaa
open Go.RowKit Go.Shelf
attribute [local go_sem] Oper.semAt_some

/-- As range_wide; the record is a loop's. -/
theorem range_wide2 {P : Program} {n : Nat} {g : Operand} {ps : Array Tmp} {assign body : Code} {Q : Exit → Act → World → Prop} {a : Act} {w : World} {gf : FuncId} {lb : Array Value}
    (hg : a.eval g = .func (.func gf) #[] lb) (eg : ∀ args w, (callFunc gf args).run P w = .ok (.enter gf args) w)
    (h : ∀ (rec : LoopState → Option Code → Obj) (D L : Nat) (W1 : World), w.heap.size ≤ D → D < L → RoundRule P n L a.tmps ps assign body rec →
        Same (fun _ => False) w W1 → W1.heap[L]? = some (rec .ready none) → W1.heap[D]? = some (.deferred (some [])) → (∀ st pe, ∃ r, rec st pe = .loop r) →
        Calls P gf (#[.func (.yield L) #[] #[]] ++ lb) W1 (rangeQ Fence.wide P n L rec Q { a with defers := { target := .collected D, args := #[] } :: a.defers })) :
    (Code.rangeFunc g ps assign body).wpIn Fence.wide n P Q a w := by
  refine wpIn_rangeFunc ?_
  intro fn _
  have H := h (lrec fn a.tmps ps assign body w.heap.size) w.heap.size (w.heap.size + 1) ((w.alloc (.deferred (some []))).alloc (lrec fn a.tmps ps assign body w.heap.size .ready none)) (Nat.le_refl _) (Nat.lt_succ_self _) round_rule
    ((same_alloc _).alloc _) (by have := World.alloc_heap_new (w.alloc (.deferred (some []))) (lrec fn a.tmps ps assign body w.heap.size .ready none); rwa [World.size_alloc] at this)
    ((Below.heap_alloc _ _ _ (by simp)).trans (World.alloc_heap_new w _)) (fun _ _ => ⟨_, rfl⟩)
  obtain ⟨W1, hW1⟩ : ∃ W1, (w.alloc (.deferred (some []))).alloc (lrec fn a.tmps ps assign body w.heap.size .ready none) = W1 := ⟨_, rfl⟩
  rw [hW1] at H
  refine ⟨w.heap.size + 1, [{ target := .collected w.heap.size, args := #[] }], W1, { target := .fn (.func gf) lb, args := #[.func (.yield (w.heap.size + 1)) #[] #[]] }, W1, gf,
    #[.func (.yield (w.heap.size + 1)) #[] #[]] ++ lb, W1, ?_, ?_, fun _ _ => trivial, ?_, fun h => by simp [Fence.wide] at h, ?_⟩
  · rw [← hW1]; exact run_enterLoop_outer _ _ _ _ _
  · simp only [resolve, hg]
    simp [go_sem]
  · simp [invoke, go_sem, eg]
  · refine CallsIn.mono (callsIn_wide.2 H) ?_
    rintro e W ⟨⟨v, rfl⟩, ⟨hl, hq⟩ | ⟨c, hl, hq⟩⟩
    · exact ⟨none, _, run_endLoop hl (by simp), hq _ (same_putObj _ hl) (by simp)⟩
    · exact ⟨some c, _, run_endLoop hl (by simp), hq _ (same_putObj _ hl) (by simp)⟩

def ints (l : List Nat) : List Value := l.map fun (p : Nat) => Value.int .i64 (p : Int)
theorem info3 : (Try.prog.info? 3).map (fun i => (i.zero, i.size, i.bytes)) = some (some (.int .i64 0), 1, 8) := by kernel_rfl

set_option maxHeartbeats 3200000 in
theorem pages_ok {w : World} {f fb : Nat} {M : Mm} (h : MemAt w f fb M) (root : Int) (hc : M.check root 0 = 0) :
    Calls Try.prog 22 #[.pointer (some ⟨f, 0, none⟩), .int .i64 root] w fun e w' => ∃ v, e = .returned (.tuple #[v, .int .i64 0]) ∧ w'.ownsRow w.heap.size 3 1 v (M.pgTo root 16).length (ints (M.pgTo root 16)) ∧ Same (fun _ => False) w w' := by
  have hlt := h.lt
  have H := Lib.hid h
  have hck := check_any (h.same0 (same_alloc (.cells #[.pointer (some ⟨f, 0, none⟩)] 24))) root 0
  rw [hc] at hck
  have HCK := Lib.hid hck
  clear h hck hc
  refine (callsIn_wide (n := 0)).1 ?_
  refine callsIn_of_wp_marks Try.func22 rfl trivial ?_ rfl
  simp only [Try.ntmps22, List.size_toArray, List.length_cons, List.length_nil, Nat.reduceAdd, Nat.reduceSub, Array.replicate_succ, Array.replicate_zero, List.push_toArray, List.append_toArray, List.nil_append, List.cons_append]
  gi_wp2_with fail
  refine CallsIn.mono (callsIn_wide.2 HCK.out) ?_
  rintro e w1 ⟨rfl, hs1⟩
  have b0 := hs1.cell (a := ⟨w.heap.size, 0, none⟩) (v := .pointer (some ⟨f, 0, none⟩)) (by simp) (by simp)
  have hw1 := World.block_lt_of_cell? _ _ b0
  simp only at hw1
  have hs01 : Same (fun _ => False) w w1 := (same_alloc _).trans hs1
  gi_wp2_with (gi_at_call 59; refine CallsIn.mono (callsIn_wide.2 (entries_any _ _ _)) ?_; rintro e w' ⟨rfl, rfl⟩)
  have hob : w1.heap.size < w1.heap.size + 1 := by omega
  refine range_wide2 (gf := 101) (lb := #[.pointer (some ⟨w1.heap.size + 1, 0, none⟩), .pointer (some ⟨w1.heap.size + 1 + 1, 0, none⟩)]) rfl (enters_of Try.func101 (by kernel_rfl) rfl) ?_
  intro rec D L W1 hD hL hrule hs2 hl1 hd1 hrec
  simp only [World.size_alloc, World.size_setCell] at hD
  have hb0 : W1.cell? ⟨w1.heap.size + 1, 0, none⟩ = some (.pointer (some ⟨f, 0, none⟩)) := hs2.cell (by simp [go_sem]) (by simp)
  have hb1 : W1.cell? ⟨w1.heap.size + 1 + 1, 0, none⟩ = some (.int .i64 root) := hs2.cell (by simp [go_sem]) (by simp)
  have hsA0 : Same (fun _ => False) w1 (((w1.alloc (.cells #[.slice none 0 0] 30)).alloc (.cells #[.pointer (some ⟨f, 0, none⟩)] 24)).alloc (.cells #[.int .i64 root] 3)) := ((same_alloc _).alloc _).alloc _
  have hb2 : W1.cell? ⟨w.heap.size, 0, none⟩ = some (.pointer (some ⟨f, 0, none⟩)) := hs2.cell (hsA0.cell b0 (by simp)) (by simp)
  have hb3 : W1.cell? ⟨w1.heap.size, 0, none⟩ = some (.slice none 0 0) := hs2.cell (by simp [go_sem]) (by simp)
  have hb4 : W1.frozen? ⟨w1.heap.size, 0, none⟩ = false := hs2.unfrozen (a := ⟨w1.heap.size, 0, none⟩) (v := .slice none 0 0) (by simp [go_sem]) (by simp [go_sem]) (by simp)
  have hs3 : Same (fun _ => False) w W1 := (hs01.trans hsA0).trans hs2
  have hM1 := H.out.same0 hs3
  clear hs1 hs2 b0
  have hLW1 := (Array.getElem?_eq_some_iff.1 hl1).1
  have hDW1 := (Array.getElem?_eq_some_iff.1 hd1).1
  have hwl : w.heap.size < W1.heap.size := by have := World.block_lt_of_cell? _ _ hb0; simp only at this; omega
  obtain ⟨i0, hi0, hz0, hz1', hz2⟩ := info_parts info3
  refine Calls.mono (entries1 L (w1.heap.size + 1) (w1.heap.size + 1 + 1) f fb root (fun i M' W => M' = M ∧ MemAt W f fb M ∧ W.cell? ⟨w1.heap.size + 1, 0, none⟩ = some (.pointer (some ⟨f, 0, none⟩)) ∧ W.cell? ⟨w1.heap.size + 1 + 1, 0, none⟩ = some (.int .i64 root) ∧ W.cell? ⟨w.heap.size, 0, none⟩ = some (.pointer (some ⟨f, 0, none⟩)) ∧
      (∃ v, W.cell? ⟨w1.heap.size, 0, none⟩ = some v ∧ W.frozen? ⟨w1.heap.size, 0, none⟩ = false ∧ W.ownsRow W1.heap.size 3 1 v (M.pgTo root i).length (ints (M.pgTo root i))) ∧
      Same (fun k => w.heap.size ≤ k) w W ∧ W.heap[L]? = some (rec .ready none) ∧ W.heap[D]? = some (.deferred (some [])) ∧ W1.heap.size ≤ W.heap.size)
    (fun W => False) ?_ ?_ ?_ ?_ W1 M ⟨rfl, hM1, hb0, hb1, hb2, ⟨_, hb3, hb4, World.ownsRow_nil _ _ _ _⟩, hs3.mono (fun _ _ h => h.elim), hl1, hd1, Nat.le_refl _⟩) ?_
  · rintro i M' W W' ⟨rfl, h1, h2, h3, h4, ⟨v, h8, h9, h10⟩, h5, h6, h7, h11⟩ hs
    exact ⟨rfl, h1.same0 hs, hs.cell h2 (by simp), hs.cell h3 (by simp), hs.cell h4 (by simp), ⟨v, hs.cell h8 (by simp), hs.unfrozen h8 h9 (by simp), ownsRow_same h10 hs (by simp)⟩, h5.trans (hs.mono (fun _ _ h => h.elim)), hs.block h6 (by simp), hs.block h7 (by simp), by have := hs.size; omega⟩
  · rintro i M' W ⟨rfl, h1, h2, h3, h4, h5, h6, h7⟩
    exact ⟨h1, h2, h3⟩
  · rintro i M' W hi ⟨rfl, h1, h2, h3, h4, h8, h5, h6, h7⟩ hz
    refine ⟨rfl, h1, h2, h3, h4, ?_, h5, h6, h7⟩
    rw [Mm.pgTo, if_pos hz, List.append_nil]
    exact h8
  · rintro i M' W hi ⟨rfl, h1, h2, h3, h4, ⟨v0, h8, h9, h10⟩, h5, h6, h7, h11⟩ hz
    have hst : M'.pgTo root (i + 1) = M'.pgTo root i ++ M'.pgIn (M'.get root i).2 i 16 := by rw [Mm.pgTo, if_neg hz]
    have hnn : (M'.pgTo root i).length ≤ 16 * i := M'.pgTo_len root i
    obtain ⟨⟨xf, xn⟩, hX⟩ : ∃ x, x = M'.get root i := ⟨_, rfl⟩
    rw [← hX] at hst ⊢
    simp only at hst ⊢
    have HST := Lib.hid hst
    clear hst hX hz
    refine hrule W _ _ h6 rfl ?_
    gi_wp2
    have hA : Same (fun _ => False) W ((W.alloc (.cells #[.int .i64 i] 3)).alloc (.cells #[.int .i64 xf, .int .i64 xn] 108)) := (same_alloc _).alloc _
    refine ⟨hA.block h6 (by simp), fun W2 hs2 hz2 hl2 => ?_⟩
    have hw2 := World.block_lt_of_cell? _ _ h4
    have hwL := (Array.getElem?_eq_some_iff.1 h6).1
    have hwD := (Array.getElem?_eq_some_iff.1 h7).1
    simp only at hw2
    have hsA : Same (fun k => k = L) W W2 := (hA.mono (fun _ _ h => h.elim)).trans (hs2.mono (fun k _ e => e))
    have d2 := hsA.cell h2 (by simp; omega)
    have d3 := hsA.cell h3 (by simp; omega)
    have d4 := hsA.cell h4 (by simp; omega)
    have d8 := hsA.cell h8 (by simp; omega)
    have d9 := hsA.unfrozen h8 h9 (by simp; omega)
    have d10 := ownsRow_same h10 hsA (fun g hg e => by have := (ownsRow_shape h10 hg).1; omega)
    have x0 : W2.cell? ⟨W.heap.size, 0, none⟩ = some (.int .i64 i) := hs2.cell (by simp [go_sem]) (by simp; omega)
    have x1 : W2.cell? ⟨W.heap.size + 1, 0, none⟩ = some (.int .i64 xf) := hs2.cell (by simp [go_sem]) (by simp; omega)
    have x2 : W2.cell? ⟨W.heap.size + 1, 1, none⟩ = some (.int .i64 xn) := hs2.cell (by simp [go_sem]) (by simp; omega)
    have dd := hsA.block h7 (by omega)
    have dl := hl2
    have hM3 := h1.same hsA (by omega) (by omega)
    have hs3 : Same (fun k => w.heap.size ≤ k) w W2 := h5.trans (hsA.mono (fun k _ e => by omega))
    have hWx : W.heap.size + 1 < W2.heap.size := World.block_lt_of_cell? _ _ x1
    have hW1W2 : W1.heap.size ≤ W2.heap.size := by omega
    have hi' : (i : Int) < 16 := by omega
    clear hz2 hsA hA hs2
    obtain ⟨r0, hr0⟩ := hrec .busy none
    have dl' := dl
    rw [hr0] at dl'
    have HR0 := Lib.hid hr0
    clear hr0
    gi_wp2_with fail
    refine CallsIn.mono (CallsIn.inRound L (callsIn_wide.2 (entries_any _ _ _))) ?_
    rintro e W4 ⟨rfl, rfl⟩
    gi_wp2
    have hsB : Same (fun _ => False) W2 ((W2.alloc (.cells #[.pointer (some ⟨f, 0, none⟩)] 24)).alloc (.cells #[.int .i64 xn] 3)) := (same_alloc _).alloc _
    refine range_inner (gf := 101) (lb := #[.pointer (some ⟨W2.heap.size, 0, none⟩), .pointer (some ⟨W2.heap.size + 1, 0, none⟩)]) (hsB.block dl' (by simp)) rfl (enters_of Try.func101 (by kernel_rfl) rfl) ?_
    intro rec2 L2 V1 hL2 hrule2 hv2 hl2' hrec2
    simp only [World.size_alloc] at hL2
    have hC : Same (fun _ => False) W2 V1 := hsB.trans hv2
    have e0 : V1.cell? ⟨W2.heap.size, 0, none⟩ = some (.pointer (some ⟨f, 0, none⟩)) := hv2.cell (by simp [go_sem]) (by simp)
    have e1 : V1.cell? ⟨W2.heap.size + 1, 0, none⟩ = some (.int .i64 xn) := hv2.cell (by simp [go_sem]) (by simp)
    have hl2V := (Array.getElem?_eq_some_iff.1 hl2').1
    refine Calls.mono (entries1 L2 W2.heap.size (W2.heap.size + 1) f fb xn (fun k M'' V => M'' = M' ∧ MemAt V f fb M' ∧ V.cell? ⟨W2.heap.size, 0, none⟩ = some (.pointer (some ⟨f, 0, none⟩)) ∧ V.cell? ⟨W2.heap.size + 1, 0, none⟩ = some (.int .i64 xn) ∧
        V.cell? ⟨W.heap.size, 0, none⟩ = some (.int .i64 i) ∧ V.cell? ⟨w1.heap.size + 1, 0, none⟩ = some (.pointer (some ⟨f, 0, none⟩)) ∧ V.cell? ⟨w1.heap.size + 1 + 1, 0, none⟩ = some (.int .i64 root) ∧ V.cell? ⟨w.heap.size, 0, none⟩ = some (.pointer (some ⟨f, 0, none⟩)) ∧
        (∃ v, V.cell? ⟨w1.heap.size, 0, none⟩ = some v ∧ V.frozen? ⟨w1.heap.size, 0, none⟩ = false ∧ V.ownsRow W1.heap.size 3 1 v (M'.pgTo root i ++ M'.pgIn xn i k).length (ints (M'.pgTo root i ++ M'.pgIn xn i k))) ∧
        Same (fun k => w.heap.size ≤ k) w V ∧ V.heap[L]? = some (rec .busy none) ∧ V.heap[D]? = some (.deferred (some [])) ∧ V.heap[L2]? = some (rec2 .ready none) ∧ V1.heap.size ≤ V.heap.size ∧
        (∀ v g, V.cell? ⟨w1.heap.size, 0, none⟩ = some v → v.ownBlock = some g → g < W.heap.size ∨ V1.heap.size ≤ g))
      (fun _ => False) ?_ ?_ ?_ ?_ V1 M' ⟨rfl, hM3.same0 hC, e0, e1, hC.cell x0 (by simp), hC.cell d2 (by simp), hC.cell d3 (by simp), hC.cell d4 (by simp), ⟨v0, hC.cell d8 (by simp), hC.unfrozen d8 d9 (by simp), by rw [Mm.pgIn, List.append_nil]; exact ownsRow_same d10 hC (by simp)⟩,
        hs3.trans (hC.mono (fun _ _ h => h.elim)), hC.block dl (by simp), hC.block dd (by simp), hl2', Nat.le_refl _, fun v g hv hg => ?_⟩) ?_
    · rintro k M'' V V' ⟨rfl, q1, q2, q3, q4, q5, q6, q7, ⟨v, q8, q9, q10⟩, q11, q12, q13, q14, q15, q16⟩ hs
      exact ⟨rfl, q1.same0 hs, hs.cell q2 (by simp), hs.cell q3 (by simp), hs.cell q4 (by simp), hs.cell q5 (by simp), hs.cell q6 (by simp), hs.cell q7 (by simp), ⟨v, hs.cell q8 (by simp), hs.unfrozen q8 q9 (by simp), ownsRow_same q10 hs (by simp)⟩, q11.trans (hs.mono (fun _ _ h => h.elim)), hs.block q12 (by simp), hs.block q13 (by simp), hs.block q14 (by simp), by have := hs.size; omega,
        fun v' g hv hg => by
          rw [hs.cell q8 (by simp)] at hv
          cases hv
          exact q16 v g q8 hg⟩
    · rintro k M'' V ⟨rfl, q1, q2, q3, q4⟩
      exact ⟨q1, q2, q3⟩
    · rintro k M'' V hk ⟨rfl, q1, q2, q3, q4, q5, q6, q7, q8, q9⟩ hz
      refine ⟨rfl, q1, q2, q3, q4, q5, q6, q7, ?_, q9⟩
      rw [Mm.pgIn, if_pos hz, List.append_nil]
      exact q8
    · rintro k M'' V hk ⟨rfl, q1, q2, q3, q4, q5, q6, q7, ⟨v, q8, q9, q10⟩, q11, q12, q13, q14, q15, q16⟩ hz
      have hpn := M''.pgIn_len xn i k
      have hst2 : M''.pgTo root i ++ M''.pgIn xn i (k + 1) = (M''.pgTo root i ++ M''.pgIn xn i k) ++ [16 * i + k] := by rw [Mm.pgIn, if_neg hz, List.append_assoc]
      have hq16 := q16 v
      have hlen : (M''.pgTo root i ++ M''.pgIn xn i k).length ≤ 272 := by rw [List.length_append]; omega
      generalize M''.pgTo root i ++ M''.pgIn xn i k = Lk at q10 hst2 hlen
      have HST2 := Lib.hid hst2
      have HRow := Lib.hid q10
      have hk' : (k : Int) < 16 := by omega
      clear hst2 hz
      refine hrule2 V _ _ q14 rfl ?_
      gi_wp2
      intro V5 hs5 hz5 hl5
      have hLV := (Array.getElem?_eq_some_iff.1 q12).1
      have hDV := (Array.getElem?_eq_some_iff.1 q13).1
      have p2 := hs5.cell q2 (by simp; omega)
      have p3 := hs5.cell q3 (by simp; omega)
      have p4 := hs5.cell q4 (by simp; omega)
      have p5 := hs5.cell q5 (by simp; omega)
      have p6 := hs5.cell q6 (by simp; omega)
      have p7 := hs5.cell q7 (by simp; omega)
      have p8 := hs5.cell q8 (by simp; omega)
      have p9 := hs5.unfrozen q8 q9 (by simp; omega)
      have p12 := hs5.block q12 (by omega)
      have p13 := hs5.block q13 (by omega)
      have pM := q1.same hs5 (by omega) (by omega)
      have pS : Same (fun k => w.heap.size ≤ k) w V5 := q11.trans (hs5.mono (fun k _ e => by omega))
      have pR := ownsRow_same HRow.out hs5 (fun g hg e => by have := (ownsRow_shape HRow.out hg).1; have := q16 v g q8 hg; omega)
      have PR := Lib.hid pR
      have Q16 := Lib.hid (q16 v)
      have hV5 := hs5.size
      clear pR q16 hq16 q2 q3 q4 q5 q6 q7 HRow hz5
      gi_wp2_with (gi_at_builtin; refine stop_intro ?_)
      unfold Stop
      refine wpListIn_append_same rfl _ _ 30 rfl W1.heap.size 3 i0 (.int .i64 0) 1 8 Try.underlying30 hi0 hz0 hz1' hz2 rfl (by decide) _ _ _ rfl (PR.out.alloc _) ⟨V5.heap.size, 0, none⟩ 1 1 [.int .i64 (16 * (i : Int) + (k : Int))] (by rfl) (by rfl) ?c1 ?c2 ?c3 ?c4 ?c5 ?_
      case c1 =>
        intro j u hu
        exact cells_new rfl hu
      case c2 => simp [Value.oneCell']
      case c3 => unfold maxLen; omega
      case c4 => omega
      case c5 => simp; omega
      intro v' V6 hown' hsame hfr
      obtain ⟨g', cap', rfl⟩ := own_row_succ hown'
      have hsA : Same (fun _ => False) V5 (V5.alloc (.cells #[.int .i64 (16 * (i : Int) + (k : Int))] 3)) := same_alloc _
      have hnb : ∀ b, (b < W1.heap.size ∨ W.heap.size ≤ b ∧ b < V1.heap.size) → ¬ v.ownBlock = some b := fun b hb h => by
        have h1 := (ownsRow_shape PR.out h).1
        have h2 := Q16.out b q8 h
        omega
      have y8 := hsame.cell (hsA.cell p8 (by simp)) (hnb _ (by simp only; omega))
      have y9 := hsame.unfrozen (hsA.cell p8 (by simp)) (hsA.unfrozen p8 p9 (by simp)) (hnb _ (by simp only; omega))
      have hg' : g' < W.heap.size ∨ V1.heap.size ≤ g' := by
        rcases hfr g' rfl with h | h
        · exact Q16.out g' q8 h
        · simp only [World.size_alloc] at h; omega
      have HO := Lib.hid hown'
      clear hown' q8
      gi_wp2
      have hsC : Same (fun b => v.ownBlock = some b) V5 V6 := (hsA.mono (fun _ _ h => h.elim)).trans hsame
      have hsD : Same (· = w1.heap.size) V6 (V6.setCell ⟨w1.heap.size, 0, none⟩ (.slice (some ⟨g', 0, none⟩) (Lk.length + 1) cap')) := (Same.refl _ _).setCell _ (.inr rfl)
      have hSD := (hsC.mono (T := fun b => v.ownBlock = some b ∨ b = w1.heap.size) (fun _ _ h => .inl h)).trans (hsD.mono (fun b _ h => .inr h))
      have hno : ∀ b, (b < W1.heap.size ∨ W.heap.size ≤ b ∧ b < V1.heap.size) → b ≠ w1.heap.size → ¬ (v.ownBlock = some b ∨ b = w1.heap.size) := fun b hb hb2 h => h.elim (hnb b hb) hb2
      have hV7 := hSD.size
      have hW1g : W1.heap.size ≤ g' := (ownsRow_shape HO.out rfl).1
      refine ⟨hSD.block hl5 (hno L2 (by omega) (by omega)), fun W8 hs8 _ hl8 => ⟨rfl, ?_, ?_, ?_, ?_, ?_, ?_, ?_, ?_, ?_, ?_, ?_, hl8, ?_, ?_⟩⟩
      · exact (pM.same hSD (hno f (by omega) (by omega)) (hno fb (by omega) (by omega))).same hs8 (by omega) (by omega)
      · exact hs8.cell (hSD.cell p2 (hno _ (by simp only; omega) (by simp only; omega))) (by simp; omega)
      · exact hs8.cell (hSD.cell p3 (hno _ (by simp only; omega) (by simp only; omega))) (by simp; omega)
      · exact hs8.cell (hSD.cell p4 (hno _ (by simp only; omega) (by simp only; omega))) (by simp; omega)
      · exact hs8.cell (hSD.cell p5 (hno _ (by simp only; omega) (by simp only; omega))) (by simp; omega)
      · exact hs8.cell (hSD.cell p6 (hno _ (by simp only; omega) (by simp only; omega))) (by simp; omega)
      · exact hs8.cell (hSD.cell p7 (hno _ (by simp only; omega) (by simp only; omega))) (by simp; omega)
      · have e1 : (M''.pgTo root i).length + (M''.pgIn xn i (k + 1)).length = Lk.length + 1 := by
          rw [← List.length_append, HST2.out]; simp
        have e2 : ints (M''.pgTo root i ++ M''.pgIn xn i (k + 1)) = ints Lk ++ [.int .i64 (16 * (i : Int) + (k : Int))] := by
          rw [HST2.out]; unfold ints; rw [List.map_append]; simp
        rw [e1, e2]
        exact ⟨_, hs8.cell (World.cell?_setCell_same _ _ _ y8) (by simp; omega), hs8.unfrozen (World.cell?_setCell_same _ _ _ y8) (by simpa using y9) (by simp; omega),
          ownsRow_same (ownsRow_same HO.out hsD (fun g hg e => by simp only [Value.ownBlock, Option.some.injEq] at hg; omega)) hs8 (fun g hg e => by simp only [Value.ownBlock, Option.some.injEq] at hg; omega)⟩
      · exact (pS.trans (hSD.mono (T := fun k => w.heap.size ≤ k) (fun b _ h => h.elim (fun h => by have := (ownsRow_shape PR.out h).1; omega) (fun h => by omega)))).trans (hs8.mono (fun b _ h => by omega))
      · exact hs8.block (hSD.block p12 (hno _ (by omega) (by omega))) (by omega)
      · exact hs8.block (hSD.block p13 (hno _ (by omega) (by omega))) (by omega)
      · have := hs8.size; omega
      · intro v2 g hv2' hg
        rw [hs8.cell (World.cell?_setCell_same _ _ _ y8) (by simp; omega)] at hv2'
        cases hv2'
        simp only [Value.ownBlock, Option.some.injEq] at hg
        omega
    · have hv0 := hC.cell d8 (by simp)
      rw [hv0] at hv
      cases hv
      exact .inl (ownsRow_shape h10 hg).2.1
    · rintro e V ⟨⟨v', rfl⟩, ⟨M'', rfl, q1, q2, q3, q4, q5, q6, q7, ⟨v, q8, q9, q10⟩, q11, q12, q13, q14, q15, q16⟩ | hf⟩
      · refine ⟨⟨_, rfl⟩, .inl ⟨q14, fun V5 hs5 _ => ?_⟩⟩
        have hLV := (Array.getElem?_eq_some_iff.1 q12).1
        have hDV := (Array.getElem?_eq_some_iff.1 q13).1
        have p5 := hs5.cell q5 (by simp; omega)
        have p6 := hs5.cell q6 (by simp; omega)
        have p7 := hs5.cell q7 (by simp; omega)
        have p8 := hs5.cell q8 (by simp; omega)
        have p9 := hs5.unfrozen q8 q9 (by simp; omega)
        have p12 := hs5.block q12 (by omega)
        have p13 := hs5.block q13 (by omega)
        have pM := q1.same hs5 (by omega) (by omega)
        have pS : Same (fun k => w.heap.size ≤ k) w V5 := q11.trans (hs5.mono (fun k _ e => by omega))
        have pR := ownsRow_same q10 hs5 (fun g hg e => by have := (ownsRow_shape q10 hg).1; have := q16 v g q8 hg; omega)
        have hV5 := hs5.size
        refine ⟨p12, fun W8 hs8 _ hl8 => ⟨rfl, pM.same hs8 (by omega) (by omega), hs8.cell p5 (by simp; omega), hs8.cell p6 (by simp; omega), hs8.cell p7 (by simp; omega), ?_, pS.trans (hs8.mono (fun b _ h => by omega)), hl8, hs8.block p13 (by omega), by have := hs8.size; omega⟩⟩
        rw [HST.out]
        exact ⟨v, hs8.cell p8 (by simp; omega), hs8.unfrozen p8 p9 (by simp; omega), ownsRow_same pR hs8 (fun g hg e => by have := (ownsRow_shape pR hg).1; omega)⟩
      · exact hf.elim
  · rintro e W ⟨⟨v', rfl⟩, ⟨M', rfl, h1, h2, h3, h4, ⟨v, h8, h9, h10⟩, h5, h6, h7, h11⟩ | hf⟩
    · refine ⟨⟨_, rfl⟩, .inl ⟨h6, fun W2 hs2 _ => ?_⟩⟩
      have c8 := hs2.cell h8 (by simp; omega)
      have hd2 := hs2.block h7 (by omega)
      have hR2 := ownsRow_same h10 hs2 (fun g hg e => by have := (ownsRow_shape h10 hg).1; omega)
      have hs3 := h5.trans (hs2.mono (T := fun k => w.heap.size ≤ k) (fun k _ e => by omega))
      have HR2 := Lib.hid hR2
      clear h10 hR2
      gi_wp2
      refine leaves_mark hd2 fun W5 hs6 _ => ⟨results_tmp2 rfl _ _ _, v, rfl, ?_, ?_⟩
      · exact ownsRow_base (ownsRow_same HR2.out hs6 (fun g hg e => by have := (ownsRow_shape HR2.out hg).1; omega)) (by omega)
      · exact (hs3.trans (hs6.mono (fun k _ e => by omega))).mono (fun k hk h => by omega)
    · exact hf.elim
end Go.Proofs.Ytlbgnmcjdmdjpaa
