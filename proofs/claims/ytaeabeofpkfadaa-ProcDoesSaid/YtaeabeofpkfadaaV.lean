/- proc: Wake. Conditions: the table's form, numbers' bounds. -/
import Derived.Test.YtaeabeofpkfadaaS
import Derived.Test.YtaeabeofpkfadaaAp
import Derived.Test.YtaeabeofpkfadaaE
import Derived.Stop.RegionWithIn
namespace Go.Proofs.Ytaeabeofpkfadaa
open Go.RowKit Go.Shelf
attribute [local go_sem] Oper.semAt_some

/-- A piece of code that comes to one frame and one world. -/
theorem wpIn_to {F : Fence} {n : Nat} {P : Program} {c : Code} {Q : Exit → Act → World → Prop} {a : Act} {w : World} (A : Act) (X : World) (h1 : c.wpIn F n P (fun e a' W' => e = .normal ∧ a' = A ∧ W' = X) a w) (h2 : Q .normal A X) : c.wpIn F n P Q a w :=
  wpIn_mono h1 (by rintro e a' w' ⟨rfl, rfl, rfl⟩; exact h2)
theorem roused2 {W2 w : World} {p : Pr} (h : PrAt W2 p) (hs : Same (fun _ => False) W2 w) (x : Nat) (hx : w.cell? ⟨x, 0, none⟩ = some (.pointer (some ⟨p.b, 0, none⟩))) (hne : x ≠ p.b) :
    Calls Try.prog 49 #[.pointer (some ⟨x, 0, none⟩)] w fun e w' => e = .returned (.tuple #[]) ∧ PrAt w' (up p) ∧ Same (· = p.b) W2 w' :=
  (roused (h.same hs (fun h => h)) x hx hne).mono fun e w' ⟨h1, h2, h3⟩ => ⟨h1, h2, (hs.mono (fun _ _ h => h.elim)).trans h3⟩
theorem stepIn_append {F : Fence} {n : Nat} {P : Program} {ops : Array Oper} {o : Oper} {a : Act} {w w' : World} {K : Act → World → Prop} {Q : Exit → Act → World → Prop} {E : Prop} {v' : Value}
    (hg : o.guard = none) (s x : Operand) (t : TypeId) (hop : o.op = Op.call { callee := Callee.builtin Builtin.append, args := #[s, x], argTypes := #[t, t] }) (vs vx : Value) (hs : a.eval s = vs) (hx : a.eval x = vx)
    (hrun : (Builtin.append_ #[t, t] o.type #[vs, vx]).run P w = .ok v' w') (hK : K (a.put o.dst v') w') :
    if Region.wanted o (yielded ops a.tmps) = true then Oper.wpIn F n P o a w K Q else E := by
  have hw : Region.wanted o (yielded ops a.tmps) = true := by simp [Region.wanted, hg]
  rw [if_pos hw]
  unfold Oper.wpIn
  refine ⟨?_, ?_⟩
  · simp [Oper.about, hop, resolve, Target.leads, Sem.run_pure]
  · rw [Oper.semAt_plain F _ _ (by rw [hop]; intro c hc'; cases hc')]
    simp [execOp, hop, resolve, invoke, builtin, hs, hx, hrun, Result.andThen]
    exact hK
theorem wake_nil (w : World) (c : ByteArray) : Calls Try.prog 22 #[.pointer none, .string c] w fun e w' => e = .returned (.slice none 0 0) ∧ Same (fun _ => False) w w' := by
  refine (callsIn_wide (n := 0)).1 ?_
  refine callsIn_of_wp_marks Try.func22 rfl trivial ?_ rfl
  simp only [Try.ntmps22, List.size_toArray, List.length_cons, List.length_nil, Nat.reduceAdd, Nat.reduceSub, Array.replicate_succ, Array.replicate_zero, List.push_toArray, List.append_toArray, List.nil_append, List.cons_append]
  gi_wp2_with fail
  refine CallsIn.mono (callsIn_wide.2 (all_any _ none)) ?_
  rintro e w3 ⟨rfl, rfl⟩
  gi_wp2_with fail
  refine range_wide (gf := 44) (lb := #[.pointer (some ⟨w.heap.size + 1 + 1, 0, none⟩)]) rfl (enters_of Try.func44 (by kernel_rfl) rfl) ?_
  intro rec D Lp W1 hD hL hrule hs3 hl1 hd1 _
  simp only [World.size_alloc] at hD
  have hbx : W1.cell? ⟨w.heap.size + 1 + 1, 0, none⟩ = some (.pointer none) := hs3.cell (by simp [go_sem]) (by simp)
  have hout : W1.cell? ⟨w.heap.size + 1, 0, none⟩ = some (.slice none 0 0) := hs3.cell (by simp [go_sem]) (by simp)
  have hs13 : Same (fun _ => False) w W1 := ((((same_alloc _).alloc _).alloc _)).trans hs3
  refine Calls.mono (all_nil1 Lp (w.heap.size + 1 + 1) W1 hbx) ?_
  rintro e W ⟨⟨v, rfl⟩, rfl⟩
  refine ⟨⟨_, rfl⟩, .inl ⟨hl1, fun W2 hs2 _ => ?_⟩⟩
  have hszW := hs13.size
  have hd2 := hs2.block hd1 (by omega)
  have c9 := hs2.cell hout (by simp; omega)
  have s2 : Same (fun _ => False) w W2 := hs13.trans' hs2 (fun k e hk => by omega)
  clear hs2 hs3 hbx hout hs13
  gi_wp2
  refine leaves_mark (D := D) hd2 fun W3 hs4 _ => ⟨results_tmp rfl _ _ _, rfl, s2.trans' hs4 (fun k e hk => by omega)⟩

set_option maxHeartbeats 1600000 in
theorem all2 (l tb t m : Nat) (L0 : List Pr) (last : Int) (hbd : Bd L0) (hne : L0 ≠ []) (w : World) (hb : w.cell? ⟨tb, 0, none⟩ = some (.pointer (some ⟨t, 0, none⟩))) (hT : TabAt w t m L0 last)
    (J : Nat → Nat → World → Prop) (Jx : World → Prop)
    (hJ : ∀ s1 i W, J s1 i W → W.cell? ⟨tb, 0, none⟩ = some (.pointer (some ⟨t, 0, none⟩)) ∧ W.cell? ⟨t, 0, none⟩ = some (.map (some m)) ∧ MapIs kvi W m (alOf L0))
    (hs : ∀ s1 i W W', J s1 i W → Same (fun _ => False) W W' → J s1 i W')
    (hy : ∀ s1 i p W, L0[i]? = some p → w.heap.size ≤ s1 → s1 ≤ W.heap.size → J s1 i W → YieldAt Fence.wide 0 Try.prog l #[.pointer (some ⟨p.b, 0, none⟩)] W fun e W' =>
      Same (fun k => k < w.heap.size ∨ s1 ≤ k) W W' ∧ ((e = .returned (.bool true) ∧ J s1 (i + 1) W') ∨ (e = .returned (.bool false) ∧ Jx W')))
    (h0 : ∀ s1, w.heap.size ≤ s1 → J s1 0 w) :
    Calls Try.prog 44 #[.func (.yield l) #[] #[], .pointer (some ⟨tb, 0, none⟩)] w fun e W => (∃ v, e = .returned v) ∧ ((∃ s1, w.heap.size ≤ s1 ∧ J s1 L0.length W) ∨ Jx W) := by
  obtain ⟨n, hn⟩ : ∃ n, L0.length = n + 1 := ⟨L0.length - 1, by have := List.length_pos_iff.2 hne; omega⟩
  have hlen := hbd.len
  refine (callsIn_wide (n := 0)).1 ?_
  refine callsIn_of_wp Try.func44 rfl trivial ?_ rfl
  simp only [Try.ntmps44, List.size_toArray, List.length_cons, List.length_nil, Nat.reduceAdd, Nat.reduceSub, Array.replicate_succ, Array.replicate_zero, List.push_toArray, List.append_toArray, List.nil_append, List.cons_append]
  have HT := Lib.hid hT
  have HP := Lib.hid (pids_any hT hbd)
  clear hT
  gi_wp2_with fail
  refine CallsIn.mono (callsIn_wide.2 HP.out) ?_
  rintro e w1 ⟨v, rfl, hrow, -, hs1⟩
  rw [hn] at hrow
  obtain ⟨g, cap, rfl⟩ := own_row_succ hrow
  have HROW := Lib.hid hrow
  have hsz1 := hs1.size
  have hj1 := hs w1.heap.size 0 w w1 (h0 _ hsz1) hs1
  have hgb := (hrow.lt g rfl).1
  have hgb2 := (hrow.lt g rfl).2
  clear hrow HP hb h0 hs1
  gi_wp2
  gi_loopw [8] (fun p wr => ∃ i : Nat, i ≤ n + 1 ∧ p = .int .i64 i ∧ J w1.heap.size i wr ∧ wr.ownsRow w.heap.size 3 1 (.slice (some ⟨g, 0, none⟩) (n + 1) cap) (n + 1) (pidv L0) ∧ w1.heap.size ≤ wr.heap.size) (fun p _ => n + 1 - (intOf p).toNat)
  case atStart => exact ⟨0, by omega, rfl, hj1, HROW.out, Nat.le_refl _⟩
  case round =>
    obtain ⟨i, hi, rfl, hJi, hrw, hsz⟩ := hrel
    by_cases hlt : i < n + 1
    · obtain ⟨p, hp⟩ : ∃ p, L0[i]? = some p := ⟨_, List.getElem?_eq_getElem (by omega)⟩
      have hc := hrw.cells (g := g) rfl i (.int .i64 p.pid) (by unfold pidv; rw [List.getElem?_map, hp]; rfl)
      rw [show (⟨g, 0, none⟩ : Addr).add i = ⟨g, i, none⟩ by simp [Addr.add]; intro h; exact h.symm] at hc
      obtain ⟨b1, b2, b3⟩ := hJ _ i wr hJi
      have hlk := lk61n b3 p.pid
      have hget : lget L0 p.pid = some p := by
        have hmem := List.mem_of_getElem? hp
        cases hg : lget L0 p.pid with
        | none => have := List.find?_eq_none.1 hg p hmem; simp at this
        | some q => obtain ⟨q1, q2⟩ := lget_some hg; rw [HT.out.uniq q1 hmem (.inl q2)]
      rw [aget_alOf, hget] at hlk
      simp only [Option.map_some, Option.getD_some] at hlk
      obtain ⟨fn, tmps, assign, body, hye, hR⟩ := hy _ i p wr hp hsz1 hsz hJi
      have hii : (i : Int) < n + 1 := by omega
      have HRW := Lib.hid hrw
      have HJI := Lib.hid hJi
      clear hrw hJi b3 hget
      gi_wp2
      refine hR.mono ?_
      rintro e W3 ⟨hs3, ⟨rfl, hJ3⟩ | ⟨rfl, hJx3⟩⟩
      · have hsz3 := hs3.size
        have HR3 := Lib.hid (ownsRow_same HRW.out hs3 (fun k hk h => by cases hk; have h' : g < w.heap.size ∨ w1.heap.size ≤ g := h; omega))
        gi_wp2
        go_roundw
        case rel => exact ⟨i + 1, by omega, by go_num, hJ3, HR3.out, by omega⟩
        case measure => simp [intOf]; omega
      · gi_wp2
        refine bodyPost_ret (results_none rfl _ _ _) rfl ⟨⟨_, rfl⟩, .inr hJx3⟩
    · obtain rfl : i = n + 1 := by omega
      have HJI := Lib.hid hJi
      clear hJi hrw
      gi_wp2
      refine bodyPost_end (results_none rfl _ _ _) rfl ⟨⟨_, rfl⟩, .inl ⟨_, hsz1, ?_⟩⟩
      rw [hn]
      exact HJI.out
def wv (L : List Pr) (c : ByteArray) : List Value := (woken L c).map fun n => .int .i64 n
theorem wv_len (L : List Pr) (c : ByteArray) : (wv L c).length = (woken L c).length := by simp [wv]
theorem wv_yes {L : List Pr} {c : ByteArray} {i : Nat} {q : Pr} (h : L[i]? = some q) (hw : isW c q = true) : wv (L.take (i + 1)) c = wv (L.take i) c ++ [.int .i64 q.pid] := by
  unfold wv woken
  rw [List.take_add_one, h]
  simp [hw]
theorem wv_no {L : List Pr} {c : ByteArray} {i : Nat} {q : Pr} (h : L[i]? = some q) (hw : isW c q = false) : wv (L.take (i + 1)) c = wv (L.take i) c := by
  unfold wv woken
  rw [List.take_add_one, h]
  simp [hw]
theorem woken_no {L : List Pr} {c : ByteArray} {i : Nat} {q : Pr} (h : L[i]? = some q) (hw : isW c q = false) : woken (L.take (i + 1)) c = woken (L.take i) c := by
  unfold woken
  rw [List.take_add_one, h]
  simp [hw]
theorem woken_le (L : List Pr) (c : ByteArray) : (woken L c).length ≤ L.length := by
  unfold woken
  rw [List.length_map]
  exact List.length_filter_le _ _
set_option maxHeartbeats 6400000 in
set_option maxRecDepth 16384 in
theorem wake_any {w : World} {t m : Nat} {L : List Pr} {last : Int} (h : TabAt w t m L last) (hb : Bd L) (hne : L ≠ []) (c : ByteArray) :
    Calls Try.prog 22 #[.pointer (some ⟨t, 0, none⟩), .string c] w fun e w' => ∃ v, e = .returned v ∧ w'.ownsRow w.heap.size 3 1 v (woken L c).length (wv L c) ∧ TabAt w' t m (L.map (wk c)) last ∧ Same (Own t m L) w w' := by
  have hlt := h.lt
  have hf := wk_id c
  have H := Lib.hid h
  clear h
  refine (callsIn_wide (n := 0)).1 ?_
  refine callsIn_of_wp_marks Try.func22 rfl trivial ?_ rfl
  simp only [Try.ntmps22, List.size_toArray, List.length_cons, List.length_nil, Nat.reduceAdd, Nat.reduceSub, Array.replicate_succ, Array.replicate_zero, List.push_toArray, List.append_toArray, List.nil_append, List.cons_append]
  gi_wp2_with fail
  refine CallsIn.mono (callsIn_wide.2 (all_any _ _)) ?_
  rintro e w3 ⟨rfl, rfl⟩
  gi_wp2_with fail
  refine range_wide (gf := 44) (lb := #[.pointer (some ⟨w.heap.size + 1 + 1, 0, none⟩)]) rfl (enters_of Try.func44 (by kernel_rfl) rfl) ?_
  intro rec D Lp W1 hD hL hrule hs3 hl1 hd1 _
  simp only [World.size_alloc] at hD
  have hown : ∀ b, Own t m L b → b < w.heap.size := by
    intro b hh
    rcases hh with hh | hh | ⟨q, hq, hh⟩
    · omega
    · omega
    · have := hlt.2.2 q hq; omega
  have hT1 : TabAt W1 t m L last := (H.out.same0 (((same_alloc _).alloc _).alloc _)).same0 hs3
  have hbx : W1.cell? ⟨w.heap.size + 1 + 1, 0, none⟩ = some (.pointer (some ⟨t, 0, none⟩)) := hs3.cell (by simp [go_sem]) (by simp)
  have hcx : W1.cell? ⟨w.heap.size, 0, none⟩ = some (.string c) := hs3.cell (by simp [go_sem]) (by simp)
  have hox : W1.cell? ⟨w.heap.size + 1, 0, none⟩ = some (.slice none 0 0) := hs3.cell (by simp [go_sem]) (by simp)
  have hoz : W1.frozen? ⟨w.heap.size + 1, 0, none⟩ = false := (hs3.frozen (by simp <;> omega) (by simp)).trans (by simp [go_sem])
  have hs13 : Same (fun _ => False) w W1 := ((((same_alloc _).alloc _).alloc _)).trans hs3
  have hW1 : w.heap.size + 3 ≤ W1.heap.size := by have := hs3.size; simp at this; omega
  have hLpW : Lp < W1.heap.size := (Array.getElem?_eq_some_iff.1 hl1).1
  have hDW : D < W1.heap.size := (Array.getElem?_eq_some_iff.1 hd1).1
  refine Calls.mono (all2 Lp (w.heap.size + 1 + 1) t m L last hb hne W1 hbx hT1
    (fun s1 i W => Mid W t m L last (wk c) i ∧ W.cell? ⟨w.heap.size + 1 + 1, 0, none⟩ = some (.pointer (some ⟨t, 0, none⟩)) ∧ W.cell? ⟨w.heap.size, 0, none⟩ = some (.string c) ∧
      (∃ v, W.cell? ⟨w.heap.size + 1, 0, none⟩ = some v ∧ W.frozen? ⟨w.heap.size + 1, 0, none⟩ = false ∧ W.ownsRow s1 3 1 v (woken (L.take i) c).length (wv (L.take i) c)) ∧
      Same (Own t m L) w W ∧ W.heap[Lp]? = some (rec .ready none) ∧ W.heap[D]? = some (.deferred (some []))) (fun _ => False) ?_ ?_ ?_
    (fun s1 _ => ⟨Mid.start hT1 _, hbx, hcx, ⟨_, hox, hoz, World.ownsRow_nil _ _ _ _⟩, hs13.mono (fun _ _ h => h.elim), hl1, hd1⟩)) ?_
  · rintro s1 i W ⟨g1, g2, _⟩
    exact ⟨g2, g1.t0, g1.hm⟩
  · rintro s1 i W W' ⟨g1, g2, g3, ⟨v, g4, y4, r4⟩, g5, g6, g7⟩ hs
    exact ⟨g1.same hf hs (fun _ _ h => h), hs.cell g2 (fun h => h), hs.cell g3 (fun h => h), ⟨v, hs.cell g4 (fun h => h), hs.unfrozen g4 y4 (fun h => h), ownsRow_same r4 hs (fun _ _ h => h)⟩, g5.trans (hs.mono (fun _ _ h => h.elim)), hs.block g6 (fun h => h), hs.block g7 (fun h => h)⟩
  · rintro s1 i q W hq hs1 hWs ⟨g1, g2, g3, ⟨v, g4, y4, r4⟩, g5, g6, g7⟩
    have hqm := List.mem_of_getElem? hq
    have hqo : Own t m L q.b := .inr (.inr ⟨q, hqm, rfl⟩)
    have hqb : q.b < w.heap.size := hown _ hqo
    have hpq := g1.pr i q hq
    rw [if_neg (by omega)] at hpq
    have hszW := g5.size
    refine hrule W _ _ g6 rfl ?_
    gi_wp2
    intro W2 hs2 hz2 hl2
    have p2 := hpq.same hs2 (by omega)
    have c2 := (p2 2 _ rfl).1
    have c5 := (p2 5 _ rfl).1
    have k3 := hs2.cell g3 (by simp; omega)
    have k4 := hs2.cell g4 (by simp; omega)
    have z4 := hs2.unfrozen g4 y4 (by simp; omega)
    have kx := hs2.cell g2 (by simp; omega)
    have r2 : W2.ownsRow s1 3 1 v (woken (L.take i) c).length (wv (L.take i) c) := ownsRow_same r4 hs2 (fun g hg e => by have := (ownsRow_shape r4 hg).1; omega)
    have m2 := g1.same hf hs2 (fun b hh e => by have := hown b hh; omega)
    have hd2 := hs2.block g7 (by omega)
    have s2 : Same (fun k => k < W1.heap.size ∨ s1 ≤ k) W W2 := hs2.mono (fun k _ e => by omega)
    have s2' : Same (Own t m L) w W2 := g5.trans' hs2 (fun k e hk => by omega)
    have hsz2 : s1 ≤ W2.heap.size := by omega
    have K := Lib.hid (And.intro kx (And.intro k3 (And.intro r2 (And.intro m2 (And.intro hd2 (And.intro s2 (And.intro s2' (And.intro p2 (And.intro k4 z4)))))))))
    clear hpq g1 g2 g3 g4 y4 r4 g5 g6 g7 hs2 kx r2 m2 hd2 s2 s2' hT1 hbx hcx hox hoz hs13
    -- what holds behind a round: W4 has the process changed or as it was, the list has its own block.
    have fin : ∀ (W4 W3 : World) (S : Nat → Prop) (v' : Value), Same S W2 W4 → (∀ k, S k → k = q.b ∨ k = w.heap.size + 1 ∨ v.ownBlock = some k) → Mid W4 t m L last (wk c) (i + 1) → W4.cell? ⟨w.heap.size + 1, 0, none⟩ = some v' → W4.frozen? ⟨w.heap.size + 1, 0, none⟩ = false →
        W4.ownsRow s1 3 1 v' (woken (L.take (i + 1)) c).length (wv (L.take (i + 1)) c) → Same (· = Lp) W4 W3 → W3.heap[Lp]? = some (rec .ready none) →
        Same (fun k => k < W1.heap.size ∨ s1 ≤ k) W W3 ∧ ((Mid W3 t m L last (wk c) (i + 1) ∧ W3.cell? ⟨w.heap.size + 1 + 1, 0, none⟩ = some (.pointer (some ⟨t, 0, none⟩)) ∧ W3.cell? ⟨w.heap.size, 0, none⟩ = some (.string c) ∧
        (∃ v, W3.cell? ⟨w.heap.size + 1, 0, none⟩ = some v ∧ W3.frozen? ⟨w.heap.size + 1, 0, none⟩ = false ∧ W3.ownsRow s1 3 1 v (woken (L.take (i + 1)) c).length (wv (L.take (i + 1)) c)) ∧
        Same (Own t m L) w W3 ∧ W3.heap[Lp]? = some (rec .ready none) ∧ W3.heap[D]? = some (.deferred (some [])))) := by
      intro W4 W3 S v' s4 hS m4 c4 f4 r4 s3 hl3
      obtain ⟨kx, k3, r2, m2, hd2, s2, s2', p2, k4, z4⟩ := K.out
      have hvb : ∀ k, v.ownBlock = some k → s1 ≤ k := fun k hk => (ownsRow_shape r2 hk).1
      have hS' : ∀ k, k < W1.heap.size → k ≠ w.heap.size + 1 → ¬ Own t m L k → ¬ S k := by
        intro k hk h1 h2 h3
        rcases hS k h3 with e | e | e
        · exact h2 (e ▸ hqo)
        · exact h1 e
        · have := hvb k e; omega
      have hnO : ∀ k, w.heap.size ≤ k → ¬ Own t m L k := fun k hk hh => by have := hown k hh; omega
      have hsz4 := s4.size
      refine ⟨?_, m4.same hf s3 (fun b hh e => by have := hown b hh; omega), s3.cell (s4.cell kx (hS' _ (by simp only; omega) (by simp only; omega) (hnO _ (by simp only; omega)))) (by simp only; omega),
        s3.cell (s4.cell k3 (hS' _ (by simp only; omega) (by simp only; omega) (hnO _ (by simp only; omega)))) (by simp only; omega),
        ⟨v', s3.cell c4 (by simp only; omega), s3.unfrozen c4 f4 (by simp only; omega), ownsRow_same r4 s3 (fun g hg e => by have := (ownsRow_shape r4 hg).1; omega)⟩,
        ?_, hl3, s3.block (s4.block hd2 (hS' _ hDW (by omega) (hnO _ (by omega)))) (by omega)⟩
      · exact (s2.trans (s4.mono (fun k _ e => by
          rcases hS k e with e | e | e
          · left; omega
          · left; omega
          · exact .inr (hvb k e)))).trans (s3.mono (fun k _ e => by left; omega))
      · exact (s2'.trans' s4 (fun k e hk => by
          rcases hS k e with e | e | e
          · exact e ▸ hqo
          · omega
          · have := hvb k e; omega)).trans' s3 (fun k e hk => by omega)
    have FIN := Lib.hid @fin
    clear fin
    have hqlt : q.b < W2.heap.size := by omega
    have hclt : w.heap.size < W2.heap.size := by omega
    have finNo : ∀ (W4 W3 : World), Same (fun _ => False) W2 W4 → isW c q = false → Same (· = Lp) W4 W3 → W3.heap[Lp]? = some (rec .ready none) → _ := fun W4 W3 s4 hw s3 hl3 => by
      obtain ⟨kx, k3, r2, m2, hd2, s2, s2', p2, k4, z4⟩ := K.out
      have hwk : wk c q = q := by unfold wk; rw [hw]; rfl
      refine FIN.out W4 W3 (fun _ => False) v s4 (fun _ h => h.elim) (Mid.step H.out hf m2 hq (s4.mono (fun _ _ h => h.elim)) (by rw [hwk]; exact p2.same s4 (fun h => h))) (s4.cell k4 (fun h => h)) (s4.unfrozen k4 z4 (fun h => h)) ?_ s3 hl3
      rw [woken_no hq hw, wv_no hq hw]
      exact ownsRow_same r2 s4 (fun _ _ h => h)
    have FINNO := Lib.hid finNo
    clear finNo
    by_cases e2 : q.st = 2
    · rw [e2] at c2
      have sA : Same (fun _ => False) W2 (W2.alloc (.cells #[.int .i64 2] 3)).drew := (same_alloc _).drew
      have hio := isOf_any (p2.same sA (fun h => h)) W.heap.size 2 (by rw [← hz2]; simp)
      rw [show decide (q.st = 2) = true by simpa using e2] at hio
      have d5 : (W2.alloc (.cells #[.int .i64 2] 3)).drew.cell? ⟨q.b, 5, none⟩ = some (.string q.ch) := sA.cell c5 (fun h => h)
      have d3 : (W2.alloc (.cells #[.int .i64 2] 3)).drew.cell? ⟨w.heap.size, 0, none⟩ = some (.string c) := sA.cell k3 (fun h => h)
      have SA := Lib.hid sA
      have K4 := Lib.hid (And.intro k4 z4)
      have P2 := Lib.hid p2
      clear sA p2 k4 z4 c5 k3
      by_cases ec : q.ch = c
      · rw [ec] at d5
        have hlL := woken_le (L.take i) c
        have hlL2 : (L.take i).length ≤ 1000 := by rw [List.length_take]; have := hb.len; omega
        gi_wp2_with fail
        apply wpIn_to (X := (W2.alloc (.cells #[.int .i64 2] 3)).drew)
        case h1 =>
          gi_region_with (gi_at_call 30; refine CallsIn.mono ((wide_round Lp).calls hio) ?_; rintro e5 W5 ⟨rfl, rfl⟩)
          all_goals exact ⟨rfl, rfl, rfl⟩
        case h2 =>
          clear d5 d3 hio
          gi_wp2_with fail
          refine CallsIn.mono ((wide_round Lp).calls (rouse_any _ q.b)) ?_
          rintro e5 W5 ⟨rfl, rfl⟩
          gi_wp2_with fail
          refine CallsIn.mono ((wide_round Lp).calls (roused2 (p := q) P2.out ?hs _ ?hx ?hne)) ?_
          case hs => first | exact ((same_alloc _).drew).alloc _ | exact ((same_alloc _).alloc _).drew
          case hx => simp [go_sem, hz2]
          case hne => omega
          rintro e6 W6 ⟨rfl, hp6, hs6⟩
          obtain ⟨kx, k3, r2, m2, hd2, s2, s2', -, k4, z4⟩ := K.out
          have hvb : ∀ k, v.ownBlock = some k → s1 ≤ k ∧ k < W2.heap.size := fun k hk => ⟨(ownsRow_shape r2 hk).1, (ownsRow_shape r2 hk).2.1⟩
          have hsz6 := hs6.size
          have c0 : W6.cell? ⟨q.b, 0, none⟩ = some (.int .i64 q.pid) := (hp6 0 _ rfl).1
          have x4 := hs6.cell k4 (by simp only; omega)
          have y4 := hs6.unfrozen k4 z4 (by simp only; omega)
          have r6 := ownsRow_same r2 hs6 (fun g hg e => by have := hvb g hg; omega)
          have sC : Same (fun _ => False) W6 (W6.alloc (.cells #[.int .i64 q.pid] 3)).drew := (same_alloc _).drew
          have sC0 : Same (fun _ => False) W6 (W6.alloc (.cells #[.int .i64 q.pid] 3)) := same_alloc _
          obtain ⟨i0, hi0, hq0, hq1, hq2⟩ := info_parts Try.info3
          obtain ⟨v', w8, hrun, hown', hsame, hblk⟩ := run_append_same (P := Try.prog) ((W6.alloc (.cells #[.int .i64 q.pid] 3)).drew) s1 22 22 3 i0 (.int .i64 0) 1 8 Try.underlying22 hi0 hq0 hq1 hq2 rfl (by decide) v _ _ (ownsRow_same r6 sC (fun _ _ h => h)) ⟨W6.heap.size, 0, none⟩ 1 1 [.int .i64 q.pid] rfl
            (fun j u hu => by rw [World.cell?_drew]; exact cells_new rfl hu) (by simp [Value.oneCell']) (by unfold maxLen; omega) (by omega) (by simp; omega)
          obtain ⟨g', cap', rfl⟩ := own_row_succ hown'
          have x5 := sC0.cell x4 (fun h => h)
          have c5 := sC0.cell c0 (fun h => h)
          have x8 := hsame.cell (sC.cell x4 (fun h => h)) (fun h => by have := hvb _ h; simp only at this; omega)
          have y8 := hsame.unfrozen (sC.cell x4 (fun h => h)) (sC.unfrozen x4 y4 (fun h => h)) (fun h => by have := hvb _ h; simp only at this; omega)
          have hqlt6 : q.b < W6.heap.size := by omega
          have holt6 : w.heap.size + 1 < W6.heap.size := by omega
          have hmid : Mid W6 t m L last (wk c) (i + 1) := Mid.step H.out hf m2 hq hs6 (by
            have : wk c q = up q := by unfold wk; rw [show isW c q = true by simp [isW, e2, ec]]; rfl
            rw [this]; exact hp6)
          have hl6 := hs6.block hl2 (by omega)
          have hyes := wv_yes (c := c) hq (show isW c q = true by simp [isW, e2, ec])
          have hyl := woken_succ c hq
          rw [show isW c q = true by simp [isW, e2, ec]] at hyl
          have G := Lib.hid (And.intro hmid (And.intro hsame (And.intro hown' (And.intro hs6 (And.intro hyes (And.intro hyl (And.intro hblk (And.intro hvb sC))))))))
          have L6 := Lib.hid hl6
          clear hmid hsame hown' hs6 hyes hyl hblk hvb sC sC0 r6 r2 m2 hd2 s2 s2' kx k3 k4 z4 hp6 hsz6 hl6 hl2
          gi_wp2
          apply wpIn_to (X := (w8.setCell ⟨w.heap.size + 1, 0, none⟩ (.slice (some ⟨g', 0, none⟩) ((woken (L.take i) c).length + 1) cap')))
          case h1 =>
            refine wpIn_region_any (by kernel_rfl) ?_
            change wpAnyIn _ _ _ _ _ _ _ _ _ (World.drew _)
            refine wpAnyIn_ready (rs := [0, 1]) (by kernel_rfl) (by simp) ?_
            refine AllReadyIn.cons rfl (fun K hK => ?_) (AllReadyIn.cons rfl (fun K hK => ?_) AllReadyIn.nil)
            · go_simp
              refine hK _ _ ?_
              clear hK K
              refine wpAnyIn_ready (rs := [1]) (by kernel_rfl) (by simp) ?_
              refine AllReadyIn.cons rfl (fun K hK => ?_) AllReadyIn.nil
              go_simp
              refine hK _ _ ?_
              clear hK K
              refine wpAnyIn_ready (rs := [2]) (by kernel_rfl) (by simp) ?_
              refine AllReadyIn.cons rfl (fun K hK => ?_) AllReadyIn.nil
              go_simp
              refine hK _ _ ?_
              clear hK K
              refine wpAnyIn_ready (rs := [3]) (by kernel_rfl) (by simp) ?_
              refine AllReadyIn.cons rfl (fun K hK => ?_) AllReadyIn.nil
              go_simp
              refine hK _ _ ?_
              clear hK K
              refine wpAnyIn_ready (rs := [4]) (by kernel_rfl) (by simp) ?_
              refine AllReadyIn.cons rfl (fun K hK => ?_) AllReadyIn.nil
              go_simp
              refine hK _ _ ?_
              clear hK K
              refine wpAnyIn_ready (rs := [5]) (by kernel_rfl) (by simp) ?_
              refine AllReadyIn.cons rfl (fun K hK => ?_) AllReadyIn.nil
              go_simp
              refine hK _ _ ?_
              clear hK K
              refine wpAnyIn_ready (rs := [6]) (by kernel_rfl) (by simp) ?_
              refine AllReadyIn.cons rfl (fun K hK => ?_) AllReadyIn.nil
              refine stepIn_append rfl _ _ 22 rfl v _ rfl rfl hrun ?_
              refine hK _ _ ?_
              clear hK K
              refine wpAnyIn_ready (rs := [7]) (by kernel_rfl) (by simp) ?_
              refine AllReadyIn.cons rfl (fun K hK => ?_) AllReadyIn.nil
              go_simp
              refine hK _ _ ?_
              clear hK K
              exact wpAnyIn_done (by kernel_rfl) ⟨rfl, rfl, rfl⟩ _
            · go_simp
              refine hK _ _ ?_
              clear hK K
              refine wpAnyIn_ready (rs := [0, 2]) (by kernel_rfl) (by simp) ?_
              refine AllReadyIn.cons rfl (fun K hK => ?_) (AllReadyIn.cons rfl (fun K hK => ?_) AllReadyIn.nil)
              · go_simp
                refine hK _ _ ?_
                clear hK K
                refine wpAnyIn_ready (rs := [2]) (by kernel_rfl) (by simp) ?_
                refine AllReadyIn.cons rfl (fun K hK => ?_) AllReadyIn.nil
                go_simp
                refine hK _ _ ?_
                clear hK K
                refine wpAnyIn_ready (rs := [3]) (by kernel_rfl) (by simp) ?_
                refine AllReadyIn.cons rfl (fun K hK => ?_) AllReadyIn.nil
                go_simp
                refine hK _ _ ?_
                clear hK K
                refine wpAnyIn_ready (rs := [4]) (by kernel_rfl) (by simp) ?_
                refine AllReadyIn.cons rfl (fun K hK => ?_) AllReadyIn.nil
                go_simp
                refine hK _ _ ?_
                clear hK K
                refine wpAnyIn_ready (rs := [5]) (by kernel_rfl) (by simp) ?_
                refine AllReadyIn.cons rfl (fun K hK => ?_) AllReadyIn.nil
                go_simp
                refine hK _ _ ?_
                clear hK K
                refine wpAnyIn_ready (rs := [6]) (by kernel_rfl) (by simp) ?_
                refine AllReadyIn.cons rfl (fun K hK => ?_) AllReadyIn.nil
                refine stepIn_append rfl _ _ 22 rfl v _ rfl rfl hrun ?_
                refine hK _ _ ?_
                clear hK K
                refine wpAnyIn_ready (rs := [7]) (by kernel_rfl) (by simp) ?_
                refine AllReadyIn.cons rfl (fun K hK => ?_) AllReadyIn.nil
                go_simp
                refine hK _ _ ?_
                clear hK K
                exact wpAnyIn_done (by kernel_rfl) ⟨rfl, rfl, rfl⟩ _
              · go_simp
                refine hK _ _ ?_
                clear hK K
                refine wpAnyIn_ready (rs := [0, 3]) (by kernel_rfl) (by simp) ?_
                refine AllReadyIn.cons rfl (fun K hK => ?_) (AllReadyIn.cons rfl (fun K hK => ?_) AllReadyIn.nil)
                · go_simp
                  refine hK _ _ ?_
                  clear hK K
                  refine wpAnyIn_ready (rs := [3]) (by kernel_rfl) (by simp) ?_
                  refine AllReadyIn.cons rfl (fun K hK => ?_) AllReadyIn.nil
                  go_simp
                  refine hK _ _ ?_
                  clear hK K
                  refine wpAnyIn_ready (rs := [4]) (by kernel_rfl) (by simp) ?_
                  refine AllReadyIn.cons rfl (fun K hK => ?_) AllReadyIn.nil
                  go_simp
                  refine hK _ _ ?_
                  clear hK K
                  refine wpAnyIn_ready (rs := [5]) (by kernel_rfl) (by simp) ?_
                  refine AllReadyIn.cons rfl (fun K hK => ?_) AllReadyIn.nil
                  go_simp
                  refine hK _ _ ?_
                  clear hK K
                  refine wpAnyIn_ready (rs := [6]) (by kernel_rfl) (by simp) ?_
                  refine AllReadyIn.cons rfl (fun K hK => ?_) AllReadyIn.nil
                  refine stepIn_append rfl _ _ 22 rfl v _ rfl rfl hrun ?_
                  refine hK _ _ ?_
                  clear hK K
                  refine wpAnyIn_ready (rs := [7]) (by kernel_rfl) (by simp) ?_
                  refine AllReadyIn.cons rfl (fun K hK => ?_) AllReadyIn.nil
                  go_simp
                  refine hK _ _ ?_
                  clear hK K
                  exact wpAnyIn_done (by kernel_rfl) ⟨rfl, rfl, rfl⟩ _
                · go_simp
                  refine hK _ _ ?_
                  clear hK K
                  refine wpAnyIn_ready (rs := [0, 4]) (by kernel_rfl) (by simp) ?_
                  refine AllReadyIn.cons rfl (fun K hK => ?_) (AllReadyIn.cons rfl (fun K hK => ?_) AllReadyIn.nil)
                  · go_simp
                    refine hK _ _ ?_
                    clear hK K
                    refine wpAnyIn_ready (rs := [4]) (by kernel_rfl) (by simp) ?_
                    refine AllReadyIn.cons rfl (fun K hK => ?_) AllReadyIn.nil
                    go_simp
                    refine hK _ _ ?_
                    clear hK K
                    refine wpAnyIn_ready (rs := [5]) (by kernel_rfl) (by simp) ?_
                    refine AllReadyIn.cons rfl (fun K hK => ?_) AllReadyIn.nil
                    go_simp
                    refine hK _ _ ?_
                    clear hK K
                    refine wpAnyIn_ready (rs := [6]) (by kernel_rfl) (by simp) ?_
                    refine AllReadyIn.cons rfl (fun K hK => ?_) AllReadyIn.nil
                    refine stepIn_append rfl _ _ 22 rfl v _ rfl rfl hrun ?_
                    refine hK _ _ ?_
                    clear hK K
                    refine wpAnyIn_ready (rs := [7]) (by kernel_rfl) (by simp) ?_
                    refine AllReadyIn.cons rfl (fun K hK => ?_) AllReadyIn.nil
                    go_simp
                    refine hK _ _ ?_
                    clear hK K
                    exact wpAnyIn_done (by kernel_rfl) ⟨rfl, rfl, rfl⟩ _
                  · go_simp
                    refine hK _ _ ?_
                    clear hK K
                    refine wpAnyIn_ready (rs := [0, 5]) (by kernel_rfl) (by simp) ?_
                    refine AllReadyIn.cons rfl (fun K hK => ?_) (AllReadyIn.cons rfl (fun K hK => ?_) AllReadyIn.nil)
                    · go_simp
                      refine hK _ _ ?_
                      clear hK K
                      refine wpAnyIn_ready (rs := [5]) (by kernel_rfl) (by simp) ?_
                      refine AllReadyIn.cons rfl (fun K hK => ?_) AllReadyIn.nil
                      go_simp
                      refine hK _ _ ?_
                      clear hK K
                      refine wpAnyIn_ready (rs := [6]) (by kernel_rfl) (by simp) ?_
                      refine AllReadyIn.cons rfl (fun K hK => ?_) AllReadyIn.nil
                      refine stepIn_append rfl _ _ 22 rfl v _ rfl rfl hrun ?_
                      refine hK _ _ ?_
                      clear hK K
                      refine wpAnyIn_ready (rs := [7]) (by kernel_rfl) (by simp) ?_
                      refine AllReadyIn.cons rfl (fun K hK => ?_) AllReadyIn.nil
                      go_simp
                      refine hK _ _ ?_
                      clear hK K
                      exact wpAnyIn_done (by kernel_rfl) ⟨rfl, rfl, rfl⟩ _
                    · go_simp
                      refine hK _ _ ?_
                      clear hK K
                      refine wpAnyIn_ready (rs := [0]) (by kernel_rfl) (by simp) ?_
                      refine AllReadyIn.cons rfl (fun K hK => ?_) AllReadyIn.nil
                      go_simp
                      refine hK _ _ ?_
                      clear hK K
                      refine wpAnyIn_ready (rs := [6]) (by kernel_rfl) (by simp) ?_
                      refine AllReadyIn.cons rfl (fun K hK => ?_) AllReadyIn.nil
                      refine stepIn_append rfl _ _ 22 rfl v _ rfl rfl hrun ?_
                      refine hK _ _ ?_
                      clear hK K
                      refine wpAnyIn_ready (rs := [7]) (by kernel_rfl) (by simp) ?_
                      refine AllReadyIn.cons rfl (fun K hK => ?_) AllReadyIn.nil
                      go_simp
                      refine hK _ _ ?_
                      clear hK K
                      exact wpAnyIn_done (by kernel_rfl) ⟨rfl, rfl, rfl⟩ _
          gi_wp2
          obtain ⟨hmid, hsame, hown', hs6, hyes, hyl, hblk, hvb, sC⟩ := G.out
          have sD : Same (fun k => v.ownBlock = some k) W6 w8 := (sC.mono (fun _ _ h => h.elim)).trans hsame
          have sE : Same (fun k => k = w.heap.size + 1) w8 (w8.setCell ⟨w.heap.size + 1, 0, none⟩ (.slice (some ⟨g', 0, none⟩) ((woken (L.take i) c).length + 1) cap')) := (Same.refl (fun k => k = w.heap.size + 1) _).setCell _ (.inr rfl)
          have s69 : Same (fun k => k = w.heap.size + 1 ∨ v.ownBlock = some k) W6 (w8.setCell ⟨w.heap.size + 1, 0, none⟩ (.slice (some ⟨g', 0, none⟩) ((woken (L.take i) c).length + 1) cap')) := (sD.mono (fun _ _ h => .inr h)).trans (sE.mono (fun _ _ h => .inl h))
          have s29 : Same (fun k => k = q.b ∨ k = w.heap.size + 1 ∨ v.ownBlock = some k) W2 (w8.setCell ⟨w.heap.size + 1, 0, none⟩ (.slice (some ⟨g', 0, none⟩) ((woken (L.take i) c).length + 1) cap')) := (hs6.mono (fun _ _ h => .inl h)).trans (s69.mono (fun _ _ h => .inr h))
          have hLv : ¬ v.ownBlock = some Lp := fun h => by have := hvb _ h; omega
          have hg' : s1 ≤ g' := (ownsRow_shape hown' rfl).1
          refine ⟨s69.block L6.out (fun h => by rcases h with h | h; · omega
                                                · exact hLv h), fun W3 hs9 _ hl9 => ?_⟩
          have hh := FIN.out _ W3 _ _ s29 (fun _ h => h) (hmid.same hf s69 (fun b hh h => by
            have := hown b hh
            rcases h with h | h
            · omega
            · have := hvb _ h; omega)) (World.cell?_setCell_same _ _ _ x8) (by simpa using y8) (by
            rw [hyes, hyl]
            exact ownsRow_same hown' sE (fun g hg e => by
              have e' : g = w.heap.size + 1 := e
              have hg2 : g' = g := by simpa [Value.ownBlock] using hg
              omega)) hs9 hl9
          exact ⟨hh.1, rfl, hh.2⟩
      · have ec1 : (q.ch == c) = false := beq_ne ec
        have ec2 : (q.ch.toList == c.toList) = false := by
          rw [← beq_toListBytes]; exact ec1
        gi_wp2_with fail
        apply wpIn_to (X := (W2.alloc (.cells #[.int .i64 2] 3)).drew)
        case h1 =>
          gi_region_with (gi_at_call 30; refine CallsIn.mono ((wide_round Lp).calls hio) ?_; rintro e5 W5 ⟨rfl, rfl⟩)
          all_goals exact ⟨rfl, rfl, rfl⟩
        gi_wp2
        exact ⟨((same_alloc _).drew).block hl2 (fun h => h), fun W3 hs4 _ hl4 => by have hh := FINNO.out _ W3 ((same_alloc _).drew) (by simp [isW, ec]) hs4 hl4; exact ⟨hh.1, rfl, hh.2⟩⟩
    · have hio := isOf_any (p2.same ((same_alloc (.cells #[.int .i64 2] 3)).drew) (fun h => h)) W.heap.size 2 (by rw [← hz2]; simp)
      rw [show decide (q.st = 2) = false by simpa using e2] at hio
      have K4 := Lib.hid (And.intro k4 z4)
      have P2 := Lib.hid p2
      clear p2 k4 z4 c2 c5
      gi_wp2_with fail
      gi_region_with (gi_at_call 30; refine CallsIn.mono ((wide_round Lp).calls hio) ?_; rintro e5 W5 ⟨rfl, rfl⟩)
      all_goals gi_wp2
      all_goals exact ⟨((same_alloc _).drew).block hl2 (fun h => h), fun W3 hs4 _ hl4 => by have hh := FINNO.out _ W3 ((same_alloc _).drew) (by simp [isW, e2]) hs4 hl4; exact ⟨hh.1, rfl, hh.2⟩⟩
  · rintro e W ⟨⟨v0, rfl⟩, ⟨s1, hs1, g1, g2, g3, ⟨v, g4, y4, r4⟩, g5, g6, g7⟩ | hx⟩
    · refine ⟨⟨_, rfl⟩, .inl ⟨g6, fun W2 hs2 _ => ?_⟩⟩
      have hszW := g5.size
      have hd2 := hs2.block g7 (by omega)
      have k4 := hs2.cell g4 (by simp; omega)
      have m2 := (g1.same hf hs2 (fun b hh e => by have := hown b hh; omega)).done H.out hf
      have r2 : W2.ownsRow s1 3 1 v (woken (L.take L.length) c).length (wv (L.take L.length) c) := ownsRow_same r4 hs2 (fun g hg e => by have := (ownsRow_shape r4 hg).1; omega)
      rw [List.take_length] at r2
      have s2 : Same (Own t m L) w W2 := g5.trans' hs2 (fun k e hk => by omega)
      have M2 := Lib.hid m2
      have R2 := Lib.hid r2
      clear g1 g2 g3 g4 y4 r4 g5 g6 g7 m2 r2 hs2
      gi_wp2
      refine leaves_mark hd2 fun W3 hs4 _ => ⟨results_tmp rfl _ _ _, ?_⟩
      refine ⟨v, rfl, ownsRow_base (ownsRow_same R2.out hs4 (fun g hg e => by have := (ownsRow_shape R2.out hg).1; omega)) (by omega), M2.out.same hs4 (fun b hh e => by
        have : Own t m L b := by
          rcases hh with hh | hh | ⟨x, hx, hh⟩
          · exact .inl hh
          · exact .inr (.inl hh)
          · obtain ⟨y, hy, rfl⟩ := List.mem_map.1 hx
            exact .inr (.inr ⟨y, hy, by rw [← hh]; exact (hf y).2.symm⟩)
        have := hown b this; omega), s2.trans' hs4 (fun k e hk => by omega)⟩
    · exact hx.elim
end Go.Proofs.Ytaeabeofpkfadaa
