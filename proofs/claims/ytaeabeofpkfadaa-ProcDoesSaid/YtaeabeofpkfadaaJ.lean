/- proc: Exit's walk. Conditions: the table's form, numbers' bounds. -/
import Derived.Test.YtaeabeofpkfadaaI
namespace Go.Proofs.Ytaeabeofpkfadaa
open Go.RowKit Go.Shelf
attribute [local go_sem] Oper.semAt_some

theorem Bd.put {L : List Pr} (h : Bd L) {p p' : Pr} (hp : p ∈ L) (e : p'.pid = p.pid) : Bd (put L p') := by
  refine ⟨by rw [put_length]; exact h.len, fun q hq => ?_⟩
  rcases put_mem hq with rfl | ⟨hq, _⟩
  · rw [e]; exact h.pid p hp
  · exact h.pid q hq
theorem put_ne {L : List Pr} (h : L ≠ []) (p' : Pr) : put L p' ≠ [] := by
  unfold put; simpa using h
set_option maxHeartbeats 3200000 in
set_option maxRecDepth 16384 in
theorem exit_ok {w : World} {t m : Nat} {L : List Pr} {last : Int} (h : TabAt w t m L last) (hb : Bd L) (pid status : Int) {p : Pr} {er : Int} (hr : rn L pid = (some p, er)) (hs0 : 0 ≤ status) (hs1 : status ≤ 255) (hp1 : pid ≠ 1) :
    Calls Try.prog 15 #[.pointer (some ⟨t, 0, none⟩), .int .i64 pid, .int .i64 status] w fun e w' => e = .returned (.int .i64 0) ∧ TabAt w' t m ((put L { p with st := 3, stat := status }).map (adopt pid)) last ∧ Same (Own t m L) w w' := by
  have sA : Same (fun _ => False) w (w.alloc (.cells #[.int .i64 pid] 3)) := same_alloc _
  have hra := running_any (h.same0 sA) pid
  rw [hr] at hra
  obtain ⟨hg, hst, rfl⟩ := rn_some hr
  simp only [pv] at hra
  have hpm := (lget_some hg).1
  have hne : L ≠ [] := List.ne_nil_of_mem hpm
  have hlt := h.lt
  have hx1 : (pid == 1) = false := by simpa using hp1
  have H := Lib.hid h
  clear h hr
  refine (callsIn_wide (n := 0)).1 ?_
  refine callsIn_of_wp_marks Try.func15 rfl trivial ?_ rfl
  simp only [Try.ntmps15, List.size_toArray, List.length_cons, List.length_nil, Nat.reduceAdd, Nat.reduceSub, Array.replicate_succ, Array.replicate_zero, List.push_toArray, List.append_toArray, List.nil_append, List.cons_append]
  gi_wp2_with fail
  refine CallsIn.mono (callsIn_wide.2 hra) ?_
  rintro e w1 ⟨rfl, hsB⟩
  have h1 := (H.out.same0 sA).same0 hsB
  have hsz1 : w.heap.size < w1.heap.size := by have := hsB.size; simp at this; omega
  have b4 := hsB.cell (a := ⟨w.heap.size, 0, none⟩) (v := .int .i64 pid) (by simp [go_sem]) (fun h => h)
  have hpp := h1.pr p hpm
  have H1 := Lib.hid h1
  have HP := Lib.hid hpp
  obtain ⟨c2, z2⟩ := hpp 2 _ rfl
  obtain ⟨c6, z6⟩ := hpp 6 _ rfl
  have hlt1 := h1.lt
  have hs01 : Same (fun _ => False) w w1 := sA.trans hsB
  clear h1 hpp hra sA hsB
  gi_wp2_with fail
  obtain ⟨w2, hw2⟩ : ∃ w2, w2 = (w1.setCell ⟨p.b, 2, none⟩ (.int .i64 3)).setCell ⟨p.b, 6, none⟩ (.int .i64 status) := ⟨_, rfl⟩
  rw [← hw2]
  have q1 : PrAt (w1.setCell ⟨p.b, 2, none⟩ (.int .i64 3)) { p with st := 3 } := HP.out.set (p' := { p with st := 3 }) (i := 2) (v := .int .i64 3) rfl (by omega) rfl
  have q2 : PrAt w2 { p with st := 3, stat := status } := by rw [hw2]; exact PrAt.set (p := { p with st := 3 }) (p' := { p with st := 3, stat := status }) (i := 6) (v := .int .i64 status) q1 rfl (by omega) rfl
  have sS : Same (· = p.b) w1 w2 := by rw [hw2]; exact ((Same.refl (· = p.b) _).setCell _ (.inr rfl)).setCell _ (.inr rfl)
  have h2 := H1.out.put (p' := { p with st := 3, stat := status }) hpm rfl rfl sS q2
  have hbd2 := hb.put (p' := { p with st := 3, stat := status }) hpm rfl
  have hne2 := put_ne hne { p with st := 3, stat := status }
  have hob : ∀ b, Own t m (put L { p with st := 3, stat := status }) b → Own t m L b := by
    intro b hh
    rcases hh with hh | hh | ⟨q, hq, hh⟩
    · exact .inl hh
    · exact .inr (.inl hh)
    · rcases put_mem hq with rfl | ⟨hq, _⟩
      · exact .inr (.inr ⟨p, hpm, hh⟩)
      · exact .inr (.inr ⟨q, hq, hh⟩)
  obtain ⟨L2, hL2⟩ : ∃ L2, L2 = put L { p with st := 3, stat := status } := ⟨_, rfl⟩
  rw [← hL2] at h2 hbd2 hne2 hob
  have HL2 := Lib.hid hL2
  clear hL2
  have hpb : p.b < w.heap.size := hlt.2.2 p hpm
  have b42 := sS.cell b4 (fun h => by simp only at h; omega)
  have hs02 : Same (Own t m L) w w2 := (hs01.mono (fun _ _ h => h.elim)).trans (sS.mono (fun b _ hbp => .inr (.inr ⟨p, hpm, hbp.symm⟩)))
  have hsz2 : w.heap.size < w2.heap.size := by have := sS.size; omega
  have hlt2 := h2.lt
  have hown2 : ∀ b, Own t m L2 b → b < w.heap.size := by
    intro b hh
    rcases hob b hh with hh | hh | ⟨q, hq, hh⟩
    · omega
    · omega
    · have := hlt.2.2 q hq; omega
  have H2 := Lib.hid h2
  clear hw2 q1 q2 sS h2 c2 z2 c6 z6 b4 HP H1 hs01
  refine CallsIn.mono (callsIn_wide.2 (all_any w2 _)) ?_
  rintro e w3 ⟨rfl, rfl⟩
  gi_wp2_with fail
  refine range_wide (gf := 44) (lb := #[.pointer (some ⟨w2.heap.size, 0, none⟩)]) rfl (enters_of Try.func44 (by kernel_rfl) rfl) ?_
  intro rec D Lp W1 hD hL hrule hs3 hl1 hd1 _
  simp only [World.size_alloc] at hD
  have hf := adopt_id pid
  have hW1 : w.heap.size < W1.heap.size := by have := hs3.size; simp at this; omega
  have hT1 : TabAt W1 t m L2 last := (H2.out.same0 (same_alloc _)).same0 hs3
  have hbx : W1.cell? ⟨w2.heap.size, 0, none⟩ = some (.pointer (some ⟨t, 0, none⟩)) := hs3.cell (by simp) (by simp)
  have b43 : W1.cell? ⟨w.heap.size, 0, none⟩ = some (.int .i64 pid) := hs3.cell ((same_alloc _).cell b42 (fun h => h)) (fun h => h)
  have hs13 : Same (Own t m L) w W1 := (hs02.trans ((same_alloc _).mono (fun _ _ h => h.elim))).trans (hs3.mono (fun _ _ h => h.elim))
  refine Calls.mono (all1 Lp w2.heap.size t m L2 last hbd2 hne2 W1 hbx hT1
    (fun i W => Mid W t m L2 last (adopt pid) i ∧ W.cell? ⟨w2.heap.size, 0, none⟩ = some (.pointer (some ⟨t, 0, none⟩)) ∧ W.cell? ⟨w.heap.size, 0, none⟩ = some (.int .i64 pid) ∧
      Same (Own t m L) w W ∧ W.heap[Lp]? = some (rec .ready none) ∧ W.heap[D]? = some (.deferred (some []))) (fun _ => False) ?_ ?_ ?_ ⟨Mid.start hT1 _, hbx, b43, hs13, hl1, hd1⟩) ?_
  · rintro i W ⟨g1, g2, g3, g4, g5, g6⟩
    exact ⟨g2, g1.t0, g1.hm⟩
  · rintro i W W' ⟨g1, g2, g3, g4, g5, g6⟩ hs
    exact ⟨g1.same hf hs (fun _ _ h => h), hs.cell g2 (fun h => h), hs.cell g3 (fun h => h), g4.trans (hs.mono (fun _ _ h => h.elim)), hs.block g5 (fun h => h), hs.block g6 (fun h => h)⟩
  · rintro i q W hq hWs ⟨g1, g2, g3, g4, g5, g6⟩
    have hqb : q.b < w.heap.size := hown2 _ (.inr (.inr ⟨q, List.mem_of_getElem? hq, rfl⟩))
    have hqo : Own t m L q.b := hob _ (.inr (.inr ⟨q, List.mem_of_getElem? hq, rfl⟩))
    have hpq := g1.pr i q hq
    rw [if_neg (by omega)] at hpq
    have hszW := g4.size
    have hlD : Lp < W.heap.size := (Array.getElem?_eq_some_iff.1 g5).1
    refine hrule W _ _ g5 rfl ?_
    gi_wp2
    refine ⟨(Array.getElem?_eq_some_iff.1 g5).2, fun W2 hs2 hz2 hl2 => ?_⟩
    obtain ⟨k1, y1⟩ := hpq 1 _ rfl
    have c1 := hs2.cell k1 (by simp; omega)
    have z1 := hs2.unfrozen k1 y1 (by simp; omega)
    have bp := hs2.cell g3 (by simp; omega)
    have hd2 := hs2.block g6 (by omega)
    have m2 := g1.same hf hs2 (fun b hh e => by have := hown2 b hh; omega)
    have x2 := hs2.cell g2 (by simp; omega)
    have p2 := hpq.same hs2 (by omega)
    have s2 : Same (fun k => k < W1.heap.size) W W2 := hs2.mono (fun k _ e => by subst e; exact (Array.getElem?_eq_some_iff.1 hl1).1)
    have s2' : Same (Own t m L) w W2 := g4.trans' hs2 (fun k e hk => by omega)
    have hqlt : q.b < W2.heap.size := by omega
    have K := Lib.hid (And.intro hd2 (And.intro m2 (And.intro x2 (And.intro p2 (And.intro s2 s2')))))
    have BP := Lib.hid bp
    clear hpq k1 y1 g1 g2 g3 g4 g5 g6 hs2 hd2 m2 x2 p2 s2 s2'
    by_cases e : q.par = pid
    · rw [e] at c1
      gi_wp2
      refine wpIn_region_still_tail (wide_round Lp) 5 (by kernel_rfl) (by kernel_rfl) (by kernel_rfl) ?_
      simp only [List.take_succ_cons, List.take_zero, List.drop_succ_cons, List.drop_zero]
      still_step
      still_step
      still_step
      still_step
      still_step
      refine wpStill_nil ?_
      gi_wp2
      obtain ⟨hd2, m2, x2, p2, s2, s2'⟩ := K.out
      obtain ⟨W4, hW4⟩ : ∃ W4, W4 = (W2.setCell ⟨q.b, 1, none⟩ (.int .i64 1)).drew := ⟨_, rfl⟩
      rw [← hW4]
      have s4 : Same (· = q.b) W2 W4 := by rw [hW4]; exact ((Same.refl (· = q.b) _).setCell _ (.inr rfl)).drew
      have a4 : adopt pid q = { q with par := 1 } := by unfold adopt; rw [if_pos e]
      have p4 : PrAt W4 (adopt pid q) := by rw [hW4, a4]; exact PrAt.set (w := W2) (p := q) (p' := { q with par := 1 }) (i := 1) (v := .int .i64 1) p2 rfl (by omega) rfl
      refine ⟨s4.block hl2 (by omega), fun W3 hs4 hz4 hl4 => ⟨(s2.trans (s4.mono (fun k _ e => by omega))).trans (hs4.mono (fun k _ e => by subst e; exact (Array.getElem?_eq_some_iff.1 hl1).1)), rfl, ?_, ?_, ?_, ?_, hl4, ?_⟩⟩
      · exact (Mid.step hT1 hf m2 hq s4 p4).same hf hs4 (fun b hh e => by have := hown2 b hh; omega)
      · exact hs4.cell (s4.cell x2 (by simp; omega)) (by simp; omega)
      · exact hs4.cell (s4.cell BP.out (by simp; omega)) (by simp; omega)
      · exact (s2'.trans (s4.mono (fun k _ e => by subst e; exact hqo))).trans' hs4 (fun k e hk => by omega)
      · exact hs4.block (s4.block hd2 (by omega)) (by omega)
    · have he : (q.par == pid) = false := by simpa using e
      gi_wp2
      refine wpIn_region_still_tail (wide_round Lp) 5 (by kernel_rfl) (by kernel_rfl) (by kernel_rfl) ?_
      simp only [List.take_succ_cons, List.take_zero, List.drop_succ_cons, List.drop_zero]
      still_step
      still_step
      still_step
      still_step
      still_step
      refine wpStill_nil ?_
      gi_wp2
      obtain ⟨hd2, m2, x2, p2, s2, s2'⟩ := K.out
      have a4 : adopt pid q = q := by unfold adopt; rw [if_neg e]
      have s4 : Same (· = q.b) W2 (W2.drew) := (Same.refl (· = q.b) _).drew
      have p4 : PrAt (W2.drew) (adopt pid q) := by rw [a4]; exact p2
      refine ⟨s4.block hl2 (by omega), fun W3 hs4 hz4 hl4 => ⟨(s2.trans (s4.mono (fun k _ e => by omega))).trans (hs4.mono (fun k _ e => by subst e; exact (Array.getElem?_eq_some_iff.1 hl1).1)), rfl, ?_, ?_, ?_, ?_, hl4, ?_⟩⟩
      · exact (Mid.step hT1 hf m2 hq s4 p4).same hf hs4 (fun b hh e => by have := hown2 b hh; omega)
      · exact hs4.cell (s4.cell x2 (by simp; omega)) (by simp; omega)
      · exact hs4.cell (s4.cell BP.out (by simp; omega)) (by simp; omega)
      · exact (s2'.trans (s4.mono (fun k _ e => by subst e; exact hqo))).trans' hs4 (fun k e hk => by omega)
      · exact hs4.block (s4.block hd2 (by omega)) (by omega)
  · rintro e W ⟨⟨v, rfl⟩, ⟨g1, g2, g3, g4, g5, g6⟩ | hx⟩
    · refine ⟨⟨_, rfl⟩, .inl ⟨g5, fun W2 hs2 _ => ?_⟩⟩
      have hd2 := hs2.block g6 (by omega)
      have hszW := g4.size
      have hLp : w.heap.size < Lp := by omega
      have m2 := (g1.same hf hs2 (fun b hh e => by have := hown2 b hh; omega)).done H2.out hf
      have M2 := Lib.hid m2
      have s2 : Same (Own t m L) w W2 := g4.trans' hs2 (fun k e hk => by omega)
      clear g1 g2 g3 g4 g5 g6 m2
      gi_wp2
      refine leaves_mark hd2 fun W3 hs4 _ => ⟨results_tmp rfl _ _ _, ?_⟩
      refine ⟨rfl, ?_, s2.trans' hs4 (fun k e hk => by omega)⟩
      rw [← HL2.out]
      exact M2.out.same hs4 (fun b hh e => by
        rcases hh with hh | hh | ⟨x, hx, hh⟩
        · have := hown2 t (.inl rfl); omega
        · have := hown2 m (.inr (.inl rfl)); omega
        · obtain ⟨y, hy, rfl⟩ := List.mem_map.1 hx
          have := hown2 y.b (.inr (.inr ⟨y, hy, rfl⟩))
          have := (hf y).2
          omega)
    · exact hx.elim
end Go.Proofs.Ytaeabeofpkfadaa
