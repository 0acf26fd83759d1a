/- undo: table. Condition: the adjustments are in their order, none of them 0. -/
import Derived.Test.YtcnocfboklhjnaaRo
namespace Go.Proofs.Ytcnocfboklhjnaa
open Go.RowKit Go.Shelf
attribute [local go_sem] Oper.semAt_some

theorem upd_last {l : List Tri} {x : Tri} (h : ∀ a ∈ l, Un.klt a.key x.key) (h0 : x.n ≠ 0) : Un.upd l x = l ++ [x] := by
  induction l with
  | nil => simp [Un.upd, h0]
  | cons a l ih =>
    have ha := h a (List.mem_cons_self ..)
    have ih := ih (fun b hb => h b (List.mem_cons_of_mem _ hb))
    have h1 : ¬ Un.klt x.key a.key := fun g => Un.klt_irr _ (Un.klt_trans ha g)
    have h2 : ¬ x.key = a.key := fun g => by rw [g] at ha; exact Un.klt_irr _ ha
    have h3 : ¬ a.key = x.key := fun g => h2 g.symm
    simp [Un.upd, h1, h2, h3, ih, ha]
theorem MapIs.al {w : World} {m : Nat} {al : List ((Int × Int) × Value)} (h : MapIs kvp w m al) (o : Obj) : MapIs kvp (w.alloc o) m al := h.same (same_alloc o) (by simp)
theorem tab_take {al : List ((Int × Int) × Value)} {L : List Tri} (hl : Un.RightL L) {i : Nat} {t : Tri} (ht : L[i]? = some t) (hT : Un.TabR al (L.take i)) : Un.TabR (aset al t.key (.int .i64 t.n)) (L.take (i + 1)) := by
  have hlt := (List.getElem?_eq_some_iff.1 ht).1
  have hte := (List.getElem?_eq_some_iff.1 ht).2
  have h0 := (hl.ok t (List.mem_of_getElem? ht)).2.2.1
  have hasc := hl.asc.sublist (List.take_sublist i L)
  have h1 := hT.set hasc (x := t) h0
  rw [upd_last (fun b hb => ?_) h0] at h1
  · rw [List.take_add_one, ht]
    exact h1
  · obtain ⟨j, hj, rfl⟩ := List.getElem_of_mem hb
    have hp := hl.asc
    rw [List.pairwise_iff_getElem] at hp
    simp only [List.length_take] at hj
    have := hp j i (by omega) hlt (by omega)
    rw [hte] at this
    simpa using this
set_option maxHeartbeats 1600000 in
theorem table_any (w : World) (a : Option Addr) (c : Nat) (L : List Tri) (hr : TriR w a L) (hl : Un.RightL L) (hlen : L.length ≤ maxLen) (ha : ∀ x, a = some x → x.block < w.heap.size) :
    Calls Try.prog 31 #[.slice a L.length c] w fun e w' => ∃ al, e = .returned (.map (some w.heap.size)) ∧ MapIs kvp w' w.heap.size al ∧ Un.TabR al L ∧ Same (fun _ => False) w w' := by
  have HR := Lib.hid hr
  have HL := Lib.hid hl
  have hn2 : L.length ≤ 9223372036854775807 := by unfold maxLen at hlen; omega
  obtain ⟨n, hn⟩ : ∃ n, n = L.length := ⟨_, rfl⟩
  rw [← hn] at hn2 ⊢
  have HN := Lib.hid hn
  clear hr hl hn hlen
  have hm0 : MapIs kvp (w.alloc (.map #[] 0)) w.heap.size [] := ⟨#[], 0, World.alloc_heap_new w _, Go.MapKept.stamped_empty 0, rfl⟩
  have hs0 : Same (fun b => w.heap.size ≤ b) w (w.alloc (.map #[] 0)) := (same_alloc _).mono (fun _ _ h => h.elim)
  have hmk : (Instr.makeMap 55 none).run Try.prog w = .ok (.map (some w.heap.size)) (w.alloc (.map #[] 0)) := by
    unfold Instr.makeMap
    simp only [Sem.run_bind, Sem.run_pure, run_newObj_alloc, Result.andThen]
  go_enter Try.func31, Try.ntmps31
  go_wp2
  go_loopw [9] (fun v9 wx => ∃ (i : Nat) (W : World) (al : List ((Int × Int) × Value)), W = wx ∧ i ≤ n ∧ v9 = .int .i64 i ∧ MapIs kvp W w.heap.size al ∧ Un.TabR al (L.take i) ∧ Same (fun b => w.heap.size ≤ b) w W) (fun v9 _ => n - (intOf v9).toNat)
  case atStart => exact ⟨0, _, [], rfl, by omega, rfl, hm0, by simpa using Un.TabR.nil, hs0⟩
  case round =>
    obtain ⟨i, W, al, hW, hi, rfl, hm, hT, hs⟩ := hrel
    subst hW
    by_cases hin : i < n
    · have hii : (i : Int) < n := by omega
      obtain ⟨t, ht⟩ : ∃ t, L[i]? = some t := ⟨_, List.getElem?_eq_getElem (by have := HN.out; omega)⟩
      obtain ⟨x, rfl, hx⟩ := HR.out i t ht
      have hxb := ha x rfl
      have hx2 := hx.same hs (by rw [show (x.add (i * 3)).block = x.block by unfold Addr.add; split <;> rfl]; omega)
      have x0 := hx2.c0
      have x1 := hx2.c1
      have x2 := hx2.c2
      have hzs := hs.size
      have HS := Lib.hid hs
      have HT := Lib.hid hT
      have HX := Lib.hid ht
      have HM := Lib.hid hm
      have HT2 := Lib.hid (tab_take HL.out ht hT)
      have hmlt := hm.lt
      clear hs hT ht hx hx2 hm
      go_wp2_with fail
      go_region_with (first
        | (go_at_call 35; refine (of_any _ t).mono ?_; rintro e w5 ⟨rfl, hs5⟩
           have d0 : w5.cell? ⟨W.heap.size, 0, none⟩ = some (.int .i64 t.id) := hs5.cell (by simp [go_sem]) (fun h => h)
           have d1 : w5.cell? ⟨W.heap.size, 1, none⟩ = some (.int .i64 t.num) := hs5.cell (by simp [go_sem]) (fun h => h)
           have d2 : w5.cell? ⟨W.heap.size, 2, none⟩ = some (.int .i64 t.n) := hs5.cell (by simp [go_sem]) (fun h => h)
           obtain ⟨w6, hmu, hs6, hz6, hm6⟩ := run_mapUpdate_is (P := Try.prog) Try.underlying55 key58 ((HM.out.same ((same_alloc (W := W) _).drew) (fun h => h)).same hs5 (fun h => h)) t.key (.int .i64 t.n)))
      all_goals go_wp2
      all_goals go_round
      all_goals first
        | exact ⟨i + 1, _, _, rfl, by omega, by go_num, hm6, HT2.out, ((HS.out.trans (((same_alloc (W := W) _).drew).mono (fun _ _ h => h.elim))).trans (hs5.mono (fun _ _ h => h.elim))).trans (hs6.mono (fun b _ e => by omega))⟩
        | (simp [intOf]; omega)
    · obtain rfl : i = n := by omega
      have HS := Lib.hid hs
      have HT := Lib.hid hT
      have HM := Lib.hid hm
      clear hs hT hm
      go_wp2
      go_ret
      refine ⟨al, rfl, HM.out, ?_, HS.out.mono (fun b hb h => by omega)⟩
      have := HT.out
      rwa [HN.out, List.take_length] at this
end Go.Proofs.Ytcnocfboklhjnaa
