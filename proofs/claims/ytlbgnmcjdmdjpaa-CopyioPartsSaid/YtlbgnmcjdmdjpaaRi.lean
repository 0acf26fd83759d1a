/- The reference's memory: New. Conditions: its form. -/
import Derived.Test.YtlbgnmcjdmdjpaaRh
namespace Go.Proofs.Ytlbgnmcjdmdjpaa
open Go.RowKit Go.Shelf
attribute [local go_sem] Oper.semAt_some
theorem info9 : (Try.prog.info? 9).map (fun i => (i.zero, i.size, i.bytes)) = some (some (.string ByteArray.empty), 1, 16) := by kernel_rfl

theorem rnew_bad (w : World) (n : Int) (hn : n < 1 ∨ 256 < n) : Calls Try.prog 28 #[.int .i64 n] w fun e w' => e = .returned (.tuple #[.pointer none, .int .i64 2]) ∧ w = w' := by
  have hb : (decide (n < 1) || decide (256 < n)) = true := by simpa using hn
  clear hn
  go_enter Try.func28, Try.ntmps28
  go_wp2
  all_goals
    go_ret2
    exact ⟨rfl, rfl⟩

set_option maxHeartbeats 3200000 in
set_option maxRecDepth 16384 in
theorem rnew_any (w : World) (n : Nat) (h1 : 1 ≤ n) (h2 : n ≤ 256) : Calls Try.prog 28 #[.int .i64 n] w fun e w' => ∃ r rb rr, e = .returned (.tuple #[.pointer (some ⟨r, 0, none⟩), .int .i64 0]) ∧
    w.heap.size ≤ r ∧ w.heap.size ≤ rb ∧ w.heap.size ≤ rr ∧ RefAt w' r rb rr ⟨n, fun _ => 0, fun _ _ => 0⟩ ∧ Same (fun _ => False) w w' := by
  have hb : (decide ((n : Int) < 1) || decide (256 < (n : Int))) = false := by simp; omega
  obtain ⟨w0, hw0⟩ : ∃ w0, w0 = w.alloc (.cells #[.slice none 0 0, .slice none 0 0] 122) := ⟨_, rfl⟩
  have mk := make64 w0
  have cv := conv64 (w0.alloc (.cells z64c 5)) w0.heap.size (fun j hj => z64c_cell w0 j hj)
  have HW0 := Lib.hid hw0
  refine (callsIn_wide (n := 0)).1 ?_
  refine callsIn_of_wp Try.func28 rfl trivial ?_ rfl
  simp only [Try.ntmps28, List.size_toArray, List.length_cons, List.length_nil, Nat.reduceAdd, Nat.reduceSub, Array.replicate_succ, Array.replicate_zero, List.push_toArray, List.append_toArray, List.nil_append, List.cons_append]
  gi_upto_region 4 with (fail)
  rw [← hw0]
  clear hw0
  gi_wp2
  have hr : w0.heap.size = w.heap.size + 1 := by rw [HW0.out]; simp
  have q0 : (w0.alloc (.cells z64c 5)).cell? ⟨w.heap.size, 0, none⟩ = some (.slice none 0 0) := (same_alloc _).cell (by rw [HW0.out]; simp) (fun h => h)
  have q1 : (w0.alloc (.cells z64c 5)).cell? ⟨w.heap.size, 1, none⟩ = some (.slice none 0 0) := (same_alloc _).cell (by rw [HW0.out]; simp) (fun h => h)
  have q2 : (w0.alloc (.cells z64c 5)).frozen? ⟨w.heap.size, 0, none⟩ = false := (same_alloc _).unfrozen (v := .slice none 0 0) (by rw [HW0.out]; simp) (by rw [HW0.out]; simp) (fun h => h)
  have q3 : (w0.alloc (.cells z64c 5)).frozen? ⟨w.heap.size, 1, none⟩ = false := (same_alloc _).unfrozen (v := .slice none 0 0) (by rw [HW0.out]; simp) (by rw [HW0.out]; simp) (fun h => h)
  have q4 : (w0.alloc (.cells z64c 5)).shape? w.heap.size = some (122, 2) := ((same_alloc _).shp _ (by omega)).trans (by rw [HW0.out, shape_alloc, if_pos rfl]; rfl)
  have qs : Same (fun _ => False) w (w0.alloc (.cells z64c 5)) := by rw [HW0.out]; exact (same_alloc _).alloc _
  have HQ := Lib.hid (And.intro q0 (And.intro q1 (And.intro q2 (And.intro q3 (And.intro q4 qs)))))
  have HR := Lib.hid hr
  clear q0 q1 q2 q3 q4 qs mk cv hb hr
  obtain ⟨r, hr⟩ : ∃ r, r = w.heap.size := ⟨_, rfl⟩
  obtain ⟨is, his, hzs, hzs1, hzs2⟩ := info_parts info9
  obtain ⟨i3, hi3, hz3, hz31, hz32⟩ := info_parts info3
  have HIR := Lib.hid hr
  gi_loopw [6] (fun v6 wr => ∃ i : Nat, i ≤ n ∧ v6 = .int .i64 i ∧ ∃ vb vr, wr.cell? ⟨w.heap.size, 0, none⟩ = some vb ∧ wr.cell? ⟨w.heap.size, 1, none⟩ = some vr ∧ wr.frozen? ⟨w.heap.size, 0, none⟩ = false ∧ wr.frozen? ⟨w.heap.size, 1, none⟩ = false ∧
      wr.shape? w.heap.size = some (122, 2) ∧ wr.ownsRow w.heap.size 9 1 vb i (List.replicate i (.string z64)) ∧ wr.ownsRow w.heap.size 3 1 vr i (List.replicate i (.int .i64 0)) ∧ Same (fun _ => False) w wr ∧ w.heap.size < wr.heap.size) (fun v6 _ => n - (intOf v6).toNat)
  case atStart =>
    obtain ⟨a0, a1, a2, a3, a4, a5⟩ := HQ.out
    exact ⟨0, by omega, rfl, _, _, a0, a1, a2, a3, a4, World.ownsRow_nil _ _ _ _, World.ownsRow_nil _ _ _ _, a5, World.block_lt_of_cell? _ _ a0⟩
  case round =>
    obtain ⟨i, hi, rfl, vb, vr, a0, a1, a2, a3, a4, hB, hC, hs, hsz⟩ := hrel
    have HB := Lib.hid hB
    have HC := Lib.hid hC
    have hs' := hs.size
    clear hB hC hr
    by_cases hlt : i < n
    · have hli : (i : Int) < n := by omega
      gi_wp2_with (gi_at_builtin; refine stop_intro ?_)
      unfold Stop
      refine wpListIn_append_same rfl _ _ 120 rfl w.heap.size 9 is (.string ByteArray.empty) 1 16 Try.underlying120 his hzs hzs1 hzs2 rfl (by decide) _ _ _ rfl (HB.out.alloc _) ⟨wr.heap.size, 0, none⟩ 1 1 [.string z64] (by rfl) (by rfl) ?c1 ?c2 ?c3 ?c4 ?c5 ?_
      case c1 =>
        intro j u hu
        exact cells_new rfl hu
      case c2 => simp [Value.oneCell']
      case c3 => unfold maxLen; omega
      case c4 => omega
      case c5 => simp; omega
      intro vb' w5 hown' hsame _
      obtain ⟨g', cap', rfl⟩ := own_row_succ hown'
      have hsA : Same (fun _ => False) wr (wr.alloc (.cells #[.string z64] 9)) := same_alloc _
      have hnb : ¬ vb.ownBlock = some w.heap.size := fun h => by
        obtain ⟨_, _, k, hk⟩ := ownsRow_shape HB.out h
        rw [a4] at hk; cases hk
      have hnr : ∀ g, vr.ownBlock = some g → ¬ vb.ownBlock = some g := fun g h h' => by
        obtain ⟨_, _, k, hk⟩ := ownsRow_shape HB.out h'
        obtain ⟨_, _, k', hk'⟩ := ownsRow_shape HC.out h
        rw [hk] at hk'; cases hk'
      have hsB : Same (fun b => vb.ownBlock = some b) wr w5 := (hsA.mono (fun _ _ h => h.elim)).trans hsame
      have b0 := hsB.cell a0 hnb
      have b1 := hsB.cell a1 hnb
      have b2 := hsB.unfrozen a0 a2 hnb
      have b3 := hsB.unfrozen a1 a3 hnb
      have b4 := (hsB.shp _ hsz).trans a4
      have HO := Lib.hid hown'
      have HC5 := Lib.hid (ownsRow_same HC.out hsB hnr)
      have hs5 : Same (fun k => w.heap.size ≤ k) w w5 := (hs.mono (fun _ _ h => h.elim)).trans (hsB.mono (fun b _ h => (ownsRow_shape HB.out h).1))
      have hz5 := hsB.size
      clear hown' hsame a0 a1 a2 a3 a4 hsB hsA
      gi_wp2_with (gi_at_builtin; refine stop_intro ?_)
      unfold Stop
      obtain ⟨w6, hw6⟩ : ∃ w6, w6 = w5.setCell ⟨w.heap.size, 0, none⟩ (.slice (some ⟨g', 0, none⟩) (i + 1) cap') := ⟨_, rfl⟩
      have hs6 : Same (· = w.heap.size) w5 w6 := by rw [hw6]; exact (Same.refl _ _).setCell _ (.inr rfl)
      have c0 : w6.cell? ⟨w.heap.size, 0, none⟩ = some (.slice (some ⟨g', 0, none⟩) (i + 1) cap') := by rw [hw6]; exact World.cell?_setCell_same _ _ _ b0
      have c1 : w6.cell? ⟨w.heap.size, 1, none⟩ = some vr := by rw [hw6, World.cell?_setCell_other _ _ _ _ (by simp)]; exact b1
      have c2 : w6.frozen? ⟨w.heap.size, 0, none⟩ = false := by rw [hw6]; simpa using b2
      have c3 : w6.frozen? ⟨w.heap.size, 1, none⟩ = false := by rw [hw6]; simpa using b3
      have c4 := (hs6.shp _ (by omega)).trans b4
      have HO6 := Lib.hid (ownsRow_same HO.out hs6 (fun g hg e => by
        subst e
        obtain ⟨_, _, k, hk⟩ := ownsRow_shape HO.out hg
        rw [b4] at hk; cases hk))
      have HC6 := Lib.hid (ownsRow_same HC5.out hs6 (fun g hg e => by
        subst e
        obtain ⟨_, _, k, hk⟩ := ownsRow_shape HC5.out hg
        rw [b4] at hk; cases hk))
      have hz6 := hs6.size
      have hz65 : w6.heap.size = w5.heap.size := by rw [hw6]; simp
      rw [← hw6]
      clear hw6 b0 b1 b2 b3 b4
      refine wpListIn_append_same rfl _ _ 30 rfl w.heap.size 3 i3 (.int .i64 0) 1 8 Try.underlying30 hi3 hz3 hz31 hz32 rfl (by decide) _ _ _ rfl (HC6.out.alloc _) ⟨w5.heap.size, 0, none⟩ 1 1 [.int .i64 0] (by rfl) (by rfl) ?d1 ?d2 ?d3 ?d4 ?d5 ?_
      case d1 =>
        intro j u hu
        exact cells_new hz65.symm hu
      case d2 => simp [Value.oneCell']
      case d3 => unfold maxLen; omega
      case d4 => omega
      case d5 => simp; omega
      intro vr' w7 hown' hsame _
      obtain ⟨g2, cap2, rfl⟩ := own_row_succ hown'
      have hsA : Same (fun _ => False) w6 (w6.alloc (.cells #[.int .i64 0] 3)) := same_alloc _
      have hnb : ¬ vr.ownBlock = some w.heap.size := fun h => by
        obtain ⟨_, _, k, hk⟩ := ownsRow_shape HC6.out h
        rw [c4] at hk; cases hk
      have hnr : ∀ g, (Value.slice (some ⟨g', 0, none⟩) (i + 1) cap').ownBlock = some g → ¬ vr.ownBlock = some g := fun g h h' => by
        obtain ⟨_, _, k, hk⟩ := ownsRow_shape HC6.out h'
        obtain ⟨_, _, k', hk'⟩ := ownsRow_shape HO6.out h
        rw [hk] at hk'; cases hk'
      have hsB : Same (fun b => vr.ownBlock = some b) w6 w7 := (hsA.mono (fun _ _ h => h.elim)).trans hsame
      have d0 := hsB.cell c0 hnb
      have d1 := hsB.cell c1 hnb
      have d2 := hsB.unfrozen c0 c2 hnb
      have d3 := hsB.unfrozen c1 c3 hnb
      have d4 := (hsB.shp _ (by omega)).trans c4
      have HOr := Lib.hid hown'
      have HO7 := Lib.hid (ownsRow_same HO6.out hsB hnr)
      have hs7 : Same (fun k => w.heap.size ≤ k) w w7 := (hs5.trans (hs6.mono (fun b _ h => by omega))).trans (hsB.mono (fun b _ h => (ownsRow_shape HC6.out h).1))
      have hz7 := hsB.size
      clear hown' hsame c0 c1 c2 c3 c4 hsB hsA hs5 hs6
      gi_wp2
      obtain ⟨w8, hw8⟩ : ∃ w8, w8 = w7.setCell ⟨w.heap.size, 1, none⟩ (.slice (some ⟨g2, 0, none⟩) (i + 1) cap2) := ⟨_, rfl⟩
      have hs8 : Same (· = w.heap.size) w7 w8 := by rw [hw8]; exact (Same.refl _ _).setCell _ (.inr rfl)
      have e0 : w8.cell? ⟨w.heap.size, 0, none⟩ = some (.slice (some ⟨g', 0, none⟩) (i + 1) cap') := by rw [hw8, World.cell?_setCell_other _ _ _ _ (by simp)]; exact d0
      have e1 : w8.cell? ⟨w.heap.size, 1, none⟩ = some (.slice (some ⟨g2, 0, none⟩) (i + 1) cap2) := by rw [hw8]; exact World.cell?_setCell_same _ _ _ d1
      have e2 : w8.frozen? ⟨w.heap.size, 0, none⟩ = false := by rw [hw8]; simpa using d2
      have e3 : w8.frozen? ⟨w.heap.size, 1, none⟩ = false := by rw [hw8]; simpa using d3
      have e4 := (hs8.shp _ (by omega)).trans d4
      have h9 : w8.ownsRow w.heap.size 9 1 (.slice (some ⟨g', 0, none⟩) (i + 1) cap') (i + 1) (List.replicate (i + 1) (.string z64)) := by
        rw [List.replicate_succ']
        exact ownsRow_same HO7.out hs8 (fun g hg e => by
          subst e
          obtain ⟨_, _, k, hk⟩ := ownsRow_shape HO7.out hg
          rw [d4] at hk; cases hk)
      have h3 : w8.ownsRow w.heap.size 3 1 (.slice (some ⟨g2, 0, none⟩) (i + 1) cap2) (i + 1) (List.replicate (i + 1) (.int .i64 0)) := by
        rw [List.replicate_succ']
        exact ownsRow_same HOr.out hs8 (fun g hg e => by
          subst e
          obtain ⟨_, _, k, hk⟩ := ownsRow_shape HOr.out hg
          rw [d4] at hk; cases hk)
      have hsf : Same (fun _ => False) w w8 := (hs7.trans (hs8.mono (fun b _ h => by omega))).mono (fun k h h' => by omega)
      have hz8 := hs8.size
      have HF := Lib.hid (And.intro e0 (And.intro e1 (And.intro e2 (And.intro e3 (And.intro e4 (And.intro h9 (And.intro h3 hsf)))))))
      rw [← hw8]
      clear hw8 d0 d1 d2 d3 d4 e0 e1 e2 e3 e4 h9 h3 hs8
      go_roundw
      case rel =>
        obtain ⟨e0, e1, e2, e3, e4, h9, h3, hsf⟩ := HF.out
        exact ⟨i + 1, by omega, by go_num, _, _, e0, e1, e2, e3, e4, h9, h3, hsf, by omega⟩
      case measure => simp [intOf]; omega
    · obtain rfl : i = n := by omega
      gi_wp2
      obtain ⟨j, rfl⟩ : ∃ j, i = j + 1 := ⟨i - 1, by omega⟩
      obtain ⟨gb, cb, rfl⟩ := own_row_succ HB.out
      obtain ⟨gr, cr, rfl⟩ := own_row_succ HC.out
      have hx : ∀ (b i : Nat), (⟨b, 0, none⟩ : Addr).add i = ⟨b, i, none⟩ := by intro b i; unfold Addr.add; by_cases h : i = 0 <;> simp [h]
      have s1 := ownsRow_shape HB.out rfl
      have s2 := ownsRow_shape HC.out rfl
      obtain ⟨_, _, k1, hk1⟩ := s1
      obtain ⟨_, _, k2, hk2⟩ := s2
      have hfr : ∀ {e g cap : Nat} {xs : List Value}, wr.ownsRow w.heap.size e 1 (.slice (some ⟨g, 0, none⟩) (j + 1) cap) (j + 1) xs → ∀ o, wr.frozen? ⟨g, o, none⟩ = false := by
        intro e g cap xs h o
        rcases h.2 with ⟨h0, _⟩ | ⟨g', cap', cur, h0, _, h1, _⟩
        · cases h0
        · cases h0
          unfold World.frozen?
          rw [h1]
          simp
      refine bodyPost_ret (results_tmp2 rfl _ _ _) rfl ⟨w.heap.size, gb, gr, rfl, Nat.le_refl _, by omega, by omega, ⟨⟨cb, a0⟩, ⟨cr, a1⟩, fun i hi => ?_, fun i hi => ?_, hfr HB.out, hfr HC.out, fun i hi => by simp, h1, h2, ?_, ?_, ?_⟩, hs⟩
      · have := HB.out.cells (g := gb) rfl i (.string z64) (by rw [List.getElem?_replicate, if_pos hi])
        rw [hx] at this
        rw [Mm.str_zero]
        exact this
      · have := HC.out.cells (g := gr) rfl i (.int .i64 0) (by rw [List.getElem?_replicate, if_pos hi])
        rw [hx] at this
        exact this
      · intro e; subst e; rw [hk1] at hk2; cases hk2
      · intro e; rw [← e, a4] at hk1; cases hk1
      · intro e; rw [← e, a4] at hk2; cases hk2

theorem rroot_any {w : World} {r rb rr : Nat} {M : Mm} (h : RefAt w r rb rr M) :
    Calls Try.prog 29 #[.pointer (some ⟨r, 0, none⟩)] w fun e w' =>
      ((∀ i, i < M.n → 0 < M.R i) ∧ e = .returned (.tuple #[.int .i64 0, .int .i64 11]) ∧ RefAt w' r rb rr M ∧ Same (fun _ => False) w w') ∨
      (∃ k, k < M.n ∧ M.R k ≤ 0 ∧ (∀ i, i < k → 0 < M.R i) ∧ e = .returned (.tuple #[.int .i64 k, .int .i64 0]) ∧ RefAt w' r rb rr (M.alloc k) ∧ Same (fun b => b = rb ∨ b = rr) w w') := by
  go_enter Try.func29, Try.ntmps29
  go_wp2_with fail
  refine (ralloc_any h).mono ?_
  rintro e w' (⟨h1, rfl, h2, h3⟩ | ⟨k, h0, h1, h2, rfl, h3, h4⟩)
  · go_wp2
    go_ret2
    exact .inl ⟨h1, rfl, h2, h3⟩
  · go_wp2
    go_ret2
    exact .inr ⟨k, h0, h1, h2, rfl, h3, h4⟩
end Go.Proofs.Ytlbgnmcjdmdjpaa
