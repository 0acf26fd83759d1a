/- proc: Wait. Conditions: the table's form, numbers' bounds. -/
import Derived.Test.YtaeabeofpkfadaaN
namespace Go.Proofs.Ytaeabeofpkfadaa
open Go.RowKit Go.Shelf
attribute [local go_sem] Oper.semAt_some

theorem alloc_cell0 (W : World) (v : Value) (t : TypeId) : (W.alloc (.cells #[v] t)).cell? ⟨W.heap.size, 0, none⟩ = some v := by simp
theorem results_three {fn : Func} {t u v : Tmp} (h : fn.results = #[.tmp t, .tmp u, .tmp v]) (tmps : Array Value) (P : Program) (w : World) :
    (results fn tmps).run P w = .ok (.tuple #[tmps.getD t undef, tmps.getD u undef, tmps.getD v undef]) w := by
  simp [results, h]
theorem wait_nil (w : World) (pid : Int) : Calls Try.prog 16 #[.pointer none, .int .i64 pid] w fun e w' => e = .returned (.tuple #[.int .i64 0, .int .i64 0, .int .i64 1]) ∧ Same (fun _ => False) w w' := by
  refine (callsIn_wide (n := 0)).1 ?_
  refine callsIn_of_wp_marks Try.func16 rfl trivial ?_ rfl
  simp only [Try.ntmps16, List.size_toArray, List.length_cons, List.length_nil, Nat.reduceAdd, Nat.reduceSub, Array.replicate_succ, Array.replicate_zero, List.push_toArray, List.append_toArray, List.nil_append, List.cons_append]
  gi_wp2
  refine wpIn_scope_straight ?_
  gi_wp2_with fail
  refine CallsIn.mono (callsIn_wide.2 (running_nil _ pid)) ?_
  rintro e w1 ⟨rfl, rfl⟩
  gi_wp2
  change LeavesInM Fence.wide 0 Try.prog Try.f16 _ _ _ _ _
  refine leaves_nil (results_three (fn := Try.f16) rfl _ _ _) ?_
  exact ⟨rfl, same_alloc _⟩
theorem wait_bad {w : World} {t m : Nat} {L : List Pr} {last : Int} (h : TabAt w t m L last) (pid : Int) {er : Int} (hr : rn L pid = (none, er)) :
    Calls Try.prog 16 #[.pointer (some ⟨t, 0, none⟩), .int .i64 pid] w fun e w' => e = .returned (.tuple #[.int .i64 0, .int .i64 0, .int .i64 er]) ∧ Same (fun _ => False) w w' := by
  have hra := running_any (h.same0 (same_alloc (.cells #[.int .i64 pid] 3))) pid
  rw [hr] at hra
  simp only [pv] at hra
  have he : (er == 0) = false := by rcases rn_none hr with rfl | rfl <;> rfl
  clear h hr
  refine (callsIn_wide (n := 0)).1 ?_
  refine callsIn_of_wp_marks Try.func16 rfl trivial ?_ rfl
  simp only [Try.ntmps16, List.size_toArray, List.length_cons, List.length_nil, Nat.reduceAdd, Nat.reduceSub, Array.replicate_succ, Array.replicate_zero, List.push_toArray, List.append_toArray, List.nil_append, List.cons_append]
  gi_wp2
  refine wpIn_scope_straight ?_
  gi_wp2_with fail
  refine CallsIn.mono (callsIn_wide.2 hra) ?_
  rintro e w1 ⟨rfl, hs1⟩
  gi_wp2
  change LeavesInM Fence.wide 0 Try.prog Try.f16 _ _ _ _ _
  refine leaves_nil (results_three (fn := Try.f16) rfl _ _ _) ?_
  exact ⟨rfl, (same_alloc _).trans hs1⟩
def kin (pid : Int) (q : Pr) : Bool := decide (q.par = pid)
def zom (pid : Int) (q : Pr) : Bool := decide (q.par = pid) && decide (q.st = 3)
/-- The error behind the first i. -/
def wr (L : List Pr) (pid : Int) (i : Nat) : Int := if (L.take i).any (kin pid) then 63 else 62
theorem adel_alOf : ∀ (L : List Pr) (k : Int), L.Pairwise (fun a b => a.pid < b.pid) → adel (alOf L) k = alOf (L.filter (fun q => q.pid ≠ k))
  | [], _, _ => rfl
  | q :: L, k, h => by
    rw [List.pairwise_cons] at h
    have ih := adel_alOf L k h.2
    by_cases e : k = q.pid
    · have hf : L.filter (fun x => x.pid ≠ k) = L := by
        rw [List.filter_eq_self]
        intro x hx
        have := h.1 x hx
        simp; omega
      rw [List.filter_cons, if_neg (by simp [e]), hf]
      unfold alOf
      simp [adel, e]
    · have e' : q.pid ≠ k := fun h => e h.symm
      rw [List.filter_cons, if_pos (by simpa using e')]
      unfold alOf at ih ⊢
      simp only [List.map_cons, adel, if_neg e, ih]
theorem wr_succ {L : List Pr} {pid : Int} {i : Nat} {q : Pr} (h : L[i]? = some q) : wr L pid (i + 1) = if q.par = pid then 63 else wr L pid i := by
  unfold wr
  rw [List.take_add_one, h]
  by_cases e : q.par = pid
  · simp [kin, e]
  · simp [kin, e]
theorem zom_succ {L : List Pr} {pid : Int} {i : Nat} {q : Pr} (h : L[i]? = some q) (h1 : (L.take i).all (fun q => !zom pid q) = true) (h2 : zom pid q = false) : (L.take (i + 1)).all (fun q => !zom pid q) = true := by
  rw [List.take_add_one, h]
  simp only [Option.toList_some, List.all_append, h1, List.all_cons, h2, List.all_nil]
  rfl
theorem zom_find {pid : Int} : ∀ {L : List Pr} {i : Nat} {q : Pr}, L[i]? = some q → (L.take i).all (fun q => !zom pid q) = true → zom pid q = true → L.find? (zom pid) = some q
  | [], i, q, h, _, _ => by simp at h
  | x :: L, 0, q, h, _, h2 => by
    simp only [List.getElem?_cons_zero, Option.some.injEq] at h
    subst h
    rw [List.find?_cons, h2]
  | x :: L, i + 1, q, h, h1, h2 => by
    simp only [List.take_succ_cons, List.all_cons, Bool.and_eq_true, Bool.not_eq_true'] at h1
    rw [List.find?_cons, h1.1]
    exact zom_find (by simpa using h) h1.2 h2
set_option maxHeartbeats 3200000 in
set_option maxRecDepth 16384 in
theorem wait_any {w : World} {t m : Nat} {L : List Pr} {last : Int} (h : TabAt w t m L last) (hb : Bd L) (pid : Int) {p : Pr} {er : Int} (hr : rn L pid = (some p, er)) :
    Calls Try.prog 16 #[.pointer (some ⟨t, 0, none⟩), .int .i64 pid] w fun e w' =>
      (L.find? (zom pid) = none ∧ e = .returned (.tuple #[.int .i64 0, .int .i64 0, .int .i64 (wr L pid L.length)]) ∧ Same (fun _ => False) w w') ∨
      (∃ z, L.find? (zom pid) = some z ∧ e = .returned (.tuple #[.int .i64 z.pid, .int .i64 z.stat, .int .i64 0]) ∧ TabAt w' t m (L.filter (fun q => q.pid ≠ z.pid)) last ∧ Same (· = m) w w') := by
  have sA : Same (fun _ => False) w (w.alloc (.cells #[.int .i64 pid] 3)) := same_alloc _
  have hra := running_any (h.same0 sA) pid
  rw [hr] at hra
  obtain ⟨hg, hst, rfl⟩ := rn_some hr
  simp only [pv] at hra
  have hne : L ≠ [] := List.ne_nil_of_mem (lget_some hg).1
  have hlt := h.lt
  have H := Lib.hid h
  clear h hr
  refine (callsIn_wide (n := 0)).1 ?_
  refine callsIn_of_wp_marks Try.func16 rfl trivial ?_ rfl
  simp only [Try.ntmps16, List.size_toArray, List.length_cons, List.length_nil, Nat.reduceAdd, Nat.reduceSub, Array.replicate_succ, Array.replicate_zero, List.push_toArray, List.append_toArray, List.nil_append, List.cons_append]
  gi_wp2
  refine wpIn_scope_straight ?_
  gi_wp2_with fail
  refine CallsIn.mono (callsIn_wide.2 hra) ?_
  rintro e w1 ⟨rfl, hsB⟩
  have h1 := (H.out.same0 sA).same0 hsB
  have hsz1 : w.heap.size < w1.heap.size := by have := hsB.size; simp at this; omega
  have b3 := hsB.cell (a := ⟨w.heap.size, 0, none⟩) (v := .int .i64 pid) (by simp [go_sem]) (fun h => h)
  have hs01 : Same (fun _ => False) w w1 := sA.trans hsB
  have H1 := Lib.hid h1
  clear hra sA hsB h1
  gi_wp2
  refine wpIn_label ?_
  gi_wp2_with fail
  refine CallsIn.mono (callsIn_wide.2 (all_any _ _)) ?_
  rintro e w3 ⟨rfl, rfl⟩
  gi_wp2_with fail
  refine range_wide (gf := 44) (lb := #[.pointer (some ⟨w1.heap.size + 1 + 1, 0, none⟩)]) rfl (enters_of Try.func44 (by kernel_rfl) rfl) ?_
  intro rec D Lp W1 hD hL hrule hs3 hl1 hd1 _
  simp only [World.size_alloc] at hD
  have hT1 : TabAt W1 t m L last := (H1.out.same0 (((same_alloc _).alloc _).alloc _)).same0 hs3
  have hbx : W1.cell? ⟨w1.heap.size + 1 + 1, 0, none⟩ = some (.pointer (some ⟨t, 0, none⟩)) := hs3.cell (by simp [go_sem]) (by simp)
  have b31 : W1.cell? ⟨w.heap.size, 0, none⟩ = some (.int .i64 pid) := hs3.cell ((((same_alloc _).alloc _).alloc _).cell b3 (fun h => h)) (fun h => h)
  have b9 : W1.cell? ⟨w1.heap.size, 0, none⟩ = some (.int .i64 62) := hs3.cell (by simp [go_sem]) (by simp)
  have z9 : W1.frozen? ⟨w1.heap.size, 0, none⟩ = false := (hs3.frozen (by simp <;> omega) (by simp)).trans (by simp [go_sem])
  have b10 : W1.cell? ⟨w1.heap.size + 1, 0, none⟩ = some (.pointer none) := hs3.cell (by simp [go_sem]) (by simp)
  have z10 : W1.frozen? ⟨w1.heap.size + 1, 0, none⟩ = false := (hs3.frozen (by simp <;> omega) (by simp)).trans (by simp [go_sem])
  have hs13 : Same (fun _ => False) w W1 := (hs01.trans (((same_alloc _).alloc _).alloc _)).trans hs3
  have hW1 : w1.heap.size + 3 ≤ W1.heap.size := by have := hs3.size; simp at this; omega
  refine Calls.mono (all1 Lp (w1.heap.size + 1 + 1) t m L last hb hne W1 hbx hT1
    (fun i W => TabAt W t m L last ∧ W.cell? ⟨w1.heap.size + 1 + 1, 0, none⟩ = some (.pointer (some ⟨t, 0, none⟩)) ∧ W.cell? ⟨w.heap.size, 0, none⟩ = some (.int .i64 pid) ∧
      (W.cell? ⟨w1.heap.size, 0, none⟩ = some (.int .i64 (wr L pid i)) ∧ W.frozen? ⟨w1.heap.size, 0, none⟩ = false) ∧ (W.cell? ⟨w1.heap.size + 1, 0, none⟩ = some (.pointer none) ∧ W.frozen? ⟨w1.heap.size + 1, 0, none⟩ = false) ∧
      (L.take i).all (fun q => !zom pid q) = true ∧ Same (fun _ => False) w W ∧ W.heap[Lp]? = some (rec .ready none) ∧ W.heap[D]? = some (.deferred (some [])))
    (fun W => ∃ z, L.find? (zom pid) = some z ∧ TabAt W t m L last ∧ W.cell? ⟨w1.heap.size + 1, 0, none⟩ = some (.pointer (some ⟨z.b, 0, none⟩)) ∧ Same (fun _ => False) w W ∧ W.heap[Lp]? = some (rec .done (some (.exit 0))) ∧ W.heap[D]? = some (.deferred (some []))) ?_ ?_ ?_
    ⟨hT1, hbx, b31, ⟨b9, z9⟩, ⟨b10, z10⟩, by simp, hs13, hl1, hd1⟩) ?_
  · rintro i W ⟨g1, g2, _⟩
    exact ⟨g2, g1.t0, g1.hm⟩
  · rintro i W W' ⟨g1, g2, g3, ⟨g4, y4⟩, ⟨g5, y5⟩, g6, g7, g8, g9⟩ hs
    exact ⟨g1.same0 hs, hs.cell g2 (fun h => h), hs.cell g3 (fun h => h), ⟨hs.cell g4 (fun h => h), hs.unfrozen g4 y4 (fun h => h)⟩, ⟨hs.cell g5 (fun h => h), hs.unfrozen g5 y5 (fun h => h)⟩, g6, g7.trans hs, hs.block g8 (fun h => h), hs.block g9 (fun h => h)⟩
  · rintro i q W hq hWs ⟨g1, g2, g3, ⟨g4, y4⟩, ⟨g5, y5⟩, g6, g7, g8, g9⟩
    have hqm := List.mem_of_getElem? hq
    have hqb : q.b < w.heap.size := hlt.2.2 q hqm
    have hpq := g1.pr q hqm
    have hszW := g7.size
    refine hrule W _ _ g8 rfl ?_
    gi_wp2
    intro W2 hs2 hz2 hl2
    have p2 := hpq.same hs2 (by omega)
    have c1 := (p2 1 _ rfl).1
    have bp := hs2.cell g3 (by simp; omega)
    have k9 := hs2.cell g4 (by simp; omega)
    have y9 := hs2.unfrozen g4 y4 (by simp; omega)
    have k10 := hs2.cell g5 (by simp; omega)
    have y10 := hs2.unfrozen g5 y5 (by simp; omega)
    have kx := hs2.cell g2 (by simp; omega)
    have hT2 := g1.same hs2 (fun b hh e => by
      rcases hh with hh | hh | ⟨x, hx, hh⟩
      · omega
      · omega
      · have := hlt.2.2 x hx; omega)
    have hd2 := hs2.block g9 (by omega)
    have s2 : Same (fun k => k < W1.heap.size) W W2 := hs2.mono (fun k _ e => by subst e; exact (Array.getElem?_eq_some_iff.1 hl1).1)
    have s2' : Same (fun _ => False) w W2 := g7.trans' hs2 (fun k e hk => by omega)
    have K := Lib.hid (And.intro hd2 (And.intro hT2 (And.intro kx (And.intro p2 (And.intro s2 (And.intro s2' (And.intro k10 y10)))))))
    have hqlt : q.b < W2.heap.size := by omega
    have BP := Lib.hid bp
    have G6 := Lib.hid g6
    have K9 := Lib.hid (And.intro k9 y9)
    clear hpq g1 g2 g3 g4 y4 g5 y5 g7 g8 g9 hs2 hd2 hT2 kx s2 s2' g6 hT1 hbx b31 b9 z9 b10 z10 hs13
    have fin : ∀ (er : Int) (W4 W3 : World), er = wr L pid (i + 1) → zom pid q = false → Same (fun k => k = w1.heap.size) W2 W4 → W4.cell? ⟨w1.heap.size, 0, none⟩ = some (.int .i64 er) → W4.frozen? ⟨w1.heap.size, 0, none⟩ = false → Same (· = Lp) W4 W3 → W3.heap[Lp]? = some (rec .ready none) →
        Same (fun k => k < W1.heap.size) W W3 ∧ TabAt W3 t m L last ∧ W3.cell? ⟨w1.heap.size + 1 + 1, 0, none⟩ = some (.pointer (some ⟨t, 0, none⟩)) ∧ W3.cell? ⟨w.heap.size, 0, none⟩ = some (.int .i64 pid) ∧
        (W3.cell? ⟨w1.heap.size, 0, none⟩ = some (.int .i64 (wr L pid (i + 1))) ∧ W3.frozen? ⟨w1.heap.size, 0, none⟩ = false) ∧ (W3.cell? ⟨w1.heap.size + 1, 0, none⟩ = some (.pointer none) ∧ W3.frozen? ⟨w1.heap.size + 1, 0, none⟩ = false) ∧
        (L.take (i + 1)).all (fun q => !zom pid q) = true ∧ Same (fun _ => False) w W3 ∧ W3.heap[Lp]? = some (rec .ready none) ∧ W3.heap[D]? = some (.deferred (some [])) := by
      rintro er W4 W3 rfl hz s4 c9 f9 s3 hl3
      obtain ⟨hd2, hT2, kx, p2, s2, s2', k10, y10⟩ := K.out
      have s43 : Same (fun k => k = w1.heap.size ∨ k = Lp) W2 W3 := (s4.mono (fun k _ e => .inl e)).trans (s3.mono (fun k _ e => .inr e))
      refine ⟨s2.trans (s43.mono (fun k _ e => by have := (Array.getElem?_eq_some_iff.1 hl1).1; omega)), hT2.same s43 (fun b hh e => ?_), s43.cell kx (by simp <;> omega), s43.cell BP.out (by simp <;> omega), ⟨s3.cell c9 (by simp <;> omega), s3.unfrozen c9 f9 (by simp <;> omega)⟩, ⟨s43.cell k10 (by simp <;> omega), s43.unfrozen k10 y10 (by simp <;> omega)⟩,
        zom_succ hq G6.out hz, s2'.trans' s43 (fun k e hk => by omega), hl3, s43.block hd2 (by omega)⟩
      rcases hh with hh | hh | ⟨x, hx, hh⟩
      · omega
      · omega
      · have := hlt.2.2 x hx; omega
    have FIN := Lib.hid @fin
    clear fin
    by_cases e : q.par = pid
    · rw [e] at c1
      have k9 := K9.out.1
      have y9 := K9.out.2
      gi_wp2
      refine wpIn_region_still_tail (wide_round Lp) 5 (by kernel_rfl) (by kernel_rfl) (by kernel_rfl) ?_
      simp only [List.take_succ_cons, List.take_zero, List.drop_succ_cons, List.drop_zero]
      still_step
      still_step
      still_step
      still_step
      still_step
      refine wpStill_nil ?_
      gi_wp2_with fail
      obtain ⟨W4, hW4⟩ : ∃ W4, W4 = ((W2.setCell ⟨w1.heap.size, 0, none⟩ (.int .i64 63)).alloc (.cells #[.int .i64 3] 3)).drew := ⟨_, rfl⟩
      rw [← hW4]
      have s4 : Same (fun k => k = w1.heap.size) W2 W4 := by rw [hW4]; exact (((Same.refl (fun k => k = w1.heap.size) _).setCell _ (.inr rfl)).alloc _).drew
      have c9 : W4.cell? ⟨w1.heap.size, 0, none⟩ = some (.int .i64 63) := by rw [hW4]; exact (same_alloc (.cells #[.int .i64 3] 3)).cell (World.cell?_setCell_same _ _ _ k9) (fun h => h)
      have f9 : W4.frozen? ⟨w1.heap.size, 0, none⟩ = false := by rw [hW4]; exact (same_alloc (.cells #[.int .i64 3] 3)).unfrozen (World.cell?_setCell_same _ _ _ k9) (by simpa using y9) (fun h => h)
      have cs : W4.cell? ⟨W.heap.size, 0, none⟩ = some (.int .i64 3) := by
        rw [hW4, ← hz2]
        have hsz : (W2.setCell ⟨w1.heap.size, 0, none⟩ (.int .i64 63)).heap.size = W2.heap.size := by simp
        rw [← hsz]
        exact alloc_cell0 _ _ _
      have p4 : PrAt W4 q := p2.same s4 (by omega)
      have l4 : W4.heap[Lp]? = some (rec .busy none) := s4.block hl2 (by omega)
      have x10 := s4.cell K.out.2.2.2.2.2.2.1 (by simp)
      have y10 := s4.unfrozen K.out.2.2.2.2.2.2.1 K.out.2.2.2.2.2.2.2 (by simp)
      have hio := isOf_any p4 W.heap.size 3 cs
      clear hW4 k9 y9 cs p4
      by_cases hz3 : q.st = 3
      · rw [show decide (q.st = 3) = true by simpa using hz3] at hio
        refine CallsIn.mono ((wide_round Lp).calls hio) ?_
        rintro e5 W5 ⟨rfl, rfl⟩
        gi_wp2
        have s5 : Same (fun k => k = w1.heap.size + 1) W5 (W5.setCell ⟨w1.heap.size + 1, 0, none⟩ (.pointer (some ⟨q.b, 0, none⟩))) := (Same.refl (fun k => k = w1.heap.size + 1) _).setCell _ (.inr rfl)
        refine ⟨s5.block l4 (by omega), fun W3 hs5 hz5 hl5 => ?_⟩
        obtain ⟨hd2, hT2, kx, p2', s2, s2', -, -⟩ := K.out
        have s53 : Same (fun k => k = w1.heap.size ∨ k = w1.heap.size + 1 ∨ k = Lp) W2 W3 := ((s4.mono (fun k _ e => .inl e)).trans (s5.mono (fun k _ e => .inr (.inl e)))).trans (hs5.mono (fun k _ e => .inr (.inr e)))
        refine ⟨s2.trans (s53.mono (fun k _ e => by have := (Array.getElem?_eq_some_iff.1 hl1).1; omega)), .inr ⟨rfl, q, zom_find hq G6.out (by simp [zom, e, hz3]), hT2.same s53 (fun b hh e => ?_), hs5.cell (World.cell?_setCell_same _ _ _ x10) (by simp <;> omega), s2'.trans' s53 (fun k e hk => by omega), hl5, s53.block hd2 (by omega)⟩⟩
        rcases hh with hh | hh | ⟨x, hx, hh⟩
        · omega
        · omega
        · have := hlt.2.2 x hx; omega
      · rw [show decide (q.st = 3) = false by simpa using hz3] at hio
        refine CallsIn.mono ((wide_round Lp).calls hio) ?_
        rintro e5 W5 ⟨rfl, rfl⟩
        gi_wp2
        refine ⟨l4, fun W3 hs5 hz5 hl5 => ?_⟩
        have hh := FIN.out 63 W5 W3 (by rw [wr_succ hq, if_pos e]) (by simp [zom, hz3]) s4 c9 f9 hs5 hl5
        exact ⟨hh.1, .inl ⟨rfl, hh.2.1, hh.2.2.1, hh.2.2.2.1, hh.2.2.2.2.1, hh.2.2.2.2.2.1, by have := hh.2.2.2.2.2.2.1; simpa using this, hh.2.2.2.2.2.2.2⟩⟩
    · have he : (q.par == pid) = false := by simpa using e
      gi_wp2
      refine wpIn_region_still_tail (wide_round Lp) 5 (by kernel_rfl) (by kernel_rfl) (by kernel_rfl) ?_
      simp only [List.take_succ_cons, List.take_zero, List.drop_succ_cons, List.drop_zero]
      still_step
      still_step
      still_step
      still_step
      still_step
      refine wpStill_nil ?_
      gi_wp2
      refine ⟨hl2, fun W3 hs4 hz4 hl4 => ?_⟩
      have hh := FIN.out (wr L pid i) W2.drew W3 (by rw [wr_succ hq, if_neg e]) (by simp [zom, e]) (Same.refl _ _).drew K9.out.1 K9.out.2 hs4 hl4
      exact ⟨hh.1, .inl ⟨rfl, hh.2.1, hh.2.2.1, hh.2.2.2.1, hh.2.2.2.2.1, hh.2.2.2.2.2.1, by have := hh.2.2.2.2.2.2.1; simpa using this, hh.2.2.2.2.2.2.2⟩⟩
  · rintro e W ⟨⟨v, rfl⟩, ⟨g1, g2, g3, ⟨g4, y4⟩, ⟨g5, y5⟩, g6, g7, g8, g9⟩ | ⟨z, f1, g1, g5, g7, g8, g9⟩⟩
    · refine ⟨⟨_, rfl⟩, .inl ⟨g8, fun W2 hs2 _ => ?_⟩⟩
      have hszW := g7.size
      have hd2 := hs2.block g9 (by omega)
      have c9 := hs2.cell g4 (by simp; omega)
      have c10 := hs2.cell g5 (by simp; omega)
      have s2 : Same (fun _ => False) w W2 := g7.trans' hs2 (fun k e hk => by omega)
      have hnone : L.find? (zom pid) = none := by
        rw [List.take_length] at g6
        rw [List.find?_eq_none]
        intro x hx hz
        have := List.all_eq_true.1 g6 x hx
        rw [hz] at this
        cases this
      have HN := Lib.hid hnone
      clear g1 g2 g3 g4 y4 g5 y5 g6 g7 g8 g9 hs2 hnone
      obtain ⟨er, her⟩ : ∃ er, er = wr L pid L.length := ⟨_, rfl⟩
      rw [← her] at c9
      have HER := Lib.hid her
      clear her
      gi_wp2
      gi_quiet_th (fail)
      rename_i nq
      gi_wp2
      change LeavesInM Fence.wide 0 Try.prog Try.f16 _ _ _ _ _
      refine leaves_mark (D := D) hd2 fun W3 hs4 _ => ⟨results_three (fn := Try.f16) rfl _ _ _, .inl ⟨HN.out, by rw [← HER.out]; rfl, (s2.drewN nq).trans' hs4 (fun k e hk => by omega)⟩⟩
    · refine ⟨⟨_, rfl⟩, .inr ⟨_, g8, fun W2 hs2 _ => ?_⟩⟩
      have hszW := g7.size
      have hzm := List.mem_of_find?_eq_some f1
      have hd2 := hs2.block g9 (by omega)
      have c10 := hs2.cell g5 (by simp; omega)
      have s2 : Same (fun _ => False) w W2 := g7.trans' hs2 (fun k e hk => by omega)
      have h2 := g1.same hs2 (fun b hh e => by
        rcases hh with hh | hh | ⟨x, hx, hh⟩
        · omega
        · omega
        · have := hlt.2.2 x hx; omega)
      have t0 := h2.t0
      have zp := h2.pr z hzm
      have zc0 := (zp 0 _ rfl).1
      have hnz := h2.nb z hzm
      have hzb := hlt.2.2 z hzm
      obtain ⟨w5, hrun, r1, r2, r3⟩ := run_delete_is Try.underlying61 (key_int Try.underlying3) (MapIs_drew h2.hm) z.pid 3 0
      have d10 := r1.cell (a := ⟨w1.heap.size + 1, 0, none⟩) c10 (by simp; omega)
      have e0 := r1.cell (a := ⟨z.b, 0, none⟩) zc0 hnz.2
      have e6 := r1.cell (a := ⟨z.b, 6, none⟩) (zp 6 _ rfl).1 hnz.2
      have H2 := Lib.hid h2
      have F1 := Lib.hid f1
      have R1 := Lib.hid r1
      have R3 := Lib.hid r3
      clear g1 g5 g7 g8 g9 hs2 h2 zp f1 r1 r3
      gi_wp2
      gi_region
      all_goals gi_wp2
      gi_quiet_th (fail)
      rename_i nq
      gi_wp2
      have h2 := H2.out
      have r1 := R1.out
      have hD5 := r1.block (A := W2.drew) hd2 (by omega)
      change LeavesInM Fence.wide 0 Try.prog Try.f16 _ _ _ _ _
      refine leaves_mark (D := D) hD5 fun W3 hs4 _ => ⟨results_three (fn := Try.f16) rfl _ _ _, .inr ⟨z, F1.out, rfl, ?_, ?_⟩⟩
      · have hDo : ∀ b, b < w.heap.size → ¬ b = D := fun b hb e => by omega
        have s6 : Same (fun b => b = m ∨ b = D) W2 W3 := ((((Same.refl _ W2).drew.trans r1).drewN nq).mono (fun b _ e => .inl e)).trans (hs4.mono (fun b _ e => .inr e))
        have n1 : ∀ b, b < w.heap.size → b ≠ m → ¬ (b = m ∨ b = D) := fun b hb hm e => by
          rcases e with e | e
          · exact hm e
          · exact hDo b hb e
        refine ⟨s6.cell h2.t0 (n1 t hlt.1 h2.tm), s6.cell h2.t1 (n1 t hlt.1 h2.tm), s6.unfrozen h2.t1 h2.tz (n1 t hlt.1 h2.tm), ?_, ?_, h2.asc.filter _, h2.bi.filter _, ?_, h2.tm⟩
        · have := R3.out
          rw [adel_alOf L z.pid h2.asc] at this
          exact (MapIs_drewN this nq).same hs4 (hDo m hlt.2.1)
        · intro q hq
          have hq' := (List.mem_filter.1 hq).1
          exact (h2.pr q hq').same s6 (n1 q.b (hlt.2.2 q hq') (h2.nb q hq').2)
        · intro q hq
          exact h2.nb q (List.mem_filter.1 hq).1
      · exact ((((s2.mono (fun _ _ h => h.elim)).trans (Same.refl (· = m) W2).drew).trans r1).drewN nq).trans' hs4 (fun k e hk => by omega)
end Go.Proofs.Ytaeabeofpkfadaa
