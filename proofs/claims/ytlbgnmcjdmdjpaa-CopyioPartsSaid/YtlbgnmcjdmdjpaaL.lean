import Derived.Test.YtlbgnmcjdmdjpaaK
namespace Go.Proofs.Ytlbgnmcjdmdjpaa
open Go.RowKit Go.Shelf
attribute [local go_sem] Oper.semAt_some

def Mm.empty (M : Mm) (t : Int) : Bool := (List.range 16).all fun i => decide ((M.get t i).1 = 0)
theorem loadVar4 (w : World) (a : Addr) (v : Value) (h : w.cell? a = some v) : (loadVar 4 a).run Try.prog w = .ok v w := by simp [go_sem, h]

set_option maxHeartbeats 1600000 in
theorem isEmpty_any {w : World} {f fb : Nat} {M : Mm} (h : MemAt w f fb M) (t : Int) :
    Calls Try.prog 65 #[.pointer (some ⟨f, 0, none⟩), .int .i64 t] w fun e w' => e = .returned (.bool (M.empty t)) ∧ Same (fun _ => False) w w' := by
  have hlt := h.lt
  have H := Lib.hid h
  clear h
  refine (callsIn_wide (n := 0)).1 ?_
  refine callsIn_of_wp_marks Try.func65 rfl trivial ?_ rfl
  simp only [Try.ntmps65, List.size_toArray, List.length_cons, List.length_nil, Nat.reduceAdd, Nat.reduceSub, Array.replicate_succ, Array.replicate_zero, List.push_toArray, List.append_toArray, List.nil_append, List.cons_append]
  gi_wp2_with (gi_at_call 59; refine CallsIn.mono (callsIn_wide.2 (entries_any _ _ _)) ?_; rintro e w' ⟨rfl, rfl⟩)
  refine range_wide (gf := 101) (lb := #[.pointer (some ⟨w.heap.size + 1, 0, none⟩), .pointer (some ⟨w.heap.size + 1 + 1, 0, none⟩)]) rfl (enters_of Try.func101 (by kernel_rfl) rfl) ?_
  intro rec D L W1 hD hL hrule hs1 hl1 hd1 _
  simp only [World.size_alloc, World.size_setCell] at hD
  have hc0 : W1.cell? ⟨w.heap.size, 0, none⟩ = some (.bool false) := hs1.cell (by simp [go_sem]) (by simp)
  have hb0 : W1.cell? ⟨w.heap.size + 1, 0, none⟩ = some (.pointer (some ⟨f, 0, none⟩)) := hs1.cell (by simp [go_sem]) (by simp)
  have hb1 : W1.cell? ⟨w.heap.size + 1 + 1, 0, none⟩ = some (.int .i64 t) := hs1.cell (by simp [go_sem]) (by simp)
  have hf0 : W1.frozen? ⟨w.heap.size, 0, none⟩ = false := (hs1.frozen (by simp <;> omega) (by simp)).trans (by simp [go_sem])
  have hs2 : Same (fun k => w.heap.size ≤ k) w W1 := ((((Same.refl _ w).alloc _).alloc _).alloc _).trans (hs1.mono (by simp))
  refine Calls.mono (entries1 L (w.heap.size + 1) (w.heap.size + 1 + 1) f fb t (fun i M' W => M' = M ∧ (∀ j, j < i → (M.get t j).1 = 0) ∧ W.cell? ⟨w.heap.size, 0, none⟩ = some (.bool false) ∧ W.frozen? ⟨w.heap.size, 0, none⟩ = false ∧
      W.cell? ⟨w.heap.size + 1, 0, none⟩ = some (.pointer (some ⟨f, 0, none⟩)) ∧ W.cell? ⟨w.heap.size + 1 + 1, 0, none⟩ = some (.int .i64 t) ∧ Same (fun k => w.heap.size ≤ k) w W ∧ W.heap[L]? = some (rec .ready none) ∧ W.heap[D]? = some (.deferred (some [])))
    (fun W => M.empty t = false ∧ W.cell? ⟨w.heap.size, 0, none⟩ = some (.bool false) ∧ Same (fun k => w.heap.size ≤ k) w W ∧ W.heap[L]? = some (rec .done (some .ret)) ∧ W.heap[D]? = some (.deferred (some [])))
    ?_ ?_ ?_ ?_ W1 M ⟨rfl, by omega, hc0, hf0, hb0, hb1, hs2, hl1, hd1⟩) ?_
  · rintro i M' W W' ⟨rfl, h1, h2, h3, h4, h5, h6, h7, h8⟩ hs
    exact ⟨rfl, h1, hs.cell h2 (by simp), hs.unfrozen h2 h3 (by simp), hs.cell h4 (by simp), hs.cell h5 (by simp), h6.trans (hs.mono (fun _ _ h => h.elim)), hs.block h7 (by simp), hs.block h8 (by simp)⟩
  · rintro i M' W ⟨rfl, h1, h2, h3, h4, h5, h6, h7, h8⟩
    exact ⟨H.out.same h6 (by omega) (by omega), h4, h5⟩
  · rintro i M' W hi ⟨rfl, h1, h2, h3, h4, h5, h6, h7, h8⟩ hz
    exact ⟨rfl, fun j hj => by
      by_cases e : j = i
      · rw [e]; exact hz
      · exact h1 j (by omega), h2, h3, h4, h5, h6, h7, h8⟩
  · rintro i M' W hi ⟨rfl, h1, h2, h3, h4, h5, h6, h7, h8⟩ hz
    have hem : M'.empty t = false := by
      unfold Mm.empty
      rw [List.all_eq_false]
      exact ⟨i, List.mem_range.2 hi, by simpa using hz⟩
    have HEM := Lib.hid hem
    clear hz hem
    refine hrule W _ _ h7 rfl ?_
    gi_wp2
    intro W2 hs2 hz2 hl2
    have hc2 := hs2.cell h2 (by simp; omega)
    have hf2 := hs2.unfrozen h2 h3 (by simp; omega)
    have hd2 := hs2.block h8 (by omega)
    have hs3 := h6.trans (hs2.mono (fun k _ e => by omega))
    gi_wp2
    have hs5 : Same (fun k => w.heap.size ≤ k) W2 (W2.setCell ⟨w.heap.size, 0, none⟩ (.bool false)) := (Same.refl _ _).setCell _ (.inr (Nat.le_refl _))
    have hs6 : Same (· = w.heap.size) W2 (W2.setCell ⟨w.heap.size, 0, none⟩ (.bool false)) := (Same.refl _ _).setCell _ (.inr rfl)
    refine ⟨hs6.block hl2 (by omega), fun W3 hs4 _ hl4 => .inr ⟨rfl, HEM.out, ?_, (hs3.trans hs5).trans (hs4.mono (fun k _ e => by omega)), hl4, hs4.block (hs6.block hd2 (by omega)) (by omega)⟩⟩
    exact hs4.cell (World.cell?_setCell_same _ _ _ hc2) (by simp; omega)
  · rintro e W ⟨⟨v, rfl⟩, ⟨M', rfl, h1, h2, h3, h4, h5, h6, h7, h8⟩ | ⟨hem, h2, h6, h7, h8⟩⟩
    · have hem : M'.empty t = true := by
        unfold Mm.empty
        rw [List.all_eq_true]
        intro i hi
        simpa using h1 i (List.mem_range.1 hi)
      refine ⟨⟨_, rfl⟩, .inl ⟨h7, fun W2 hs2 _ => ?_⟩⟩
      have hc2 := hs2.cell h2 (by simp; omega)
      have hf2 := hs2.unfrozen h2 h3 (by simp; omega)
      have hd2 := hs2.block h8 (by omega)
      have hs3 := h6.trans (hs2.mono (fun k _ e => by omega))
      have HEM := Lib.hid hem
      clear hem
      gi_wp2
      have hs6 : Same (· = w.heap.size) W2 (W2.setCell ⟨w.heap.size, 0, none⟩ (.bool true)) := (Same.refl _ _).setCell _ (.inr rfl)
      refine leaves_mark (hs6.block hd2 (by omega)) fun W3 hs4 _ => ⟨results_cell1 rfl (by rfl) (loadVar4 _ _ _ (hs4.cell (World.cell?_setCell_same _ _ _ hc2) (by simp; omega))), by rw [HEM.out], ?_⟩
      exact ((hs3.trans (hs6.mono (fun k _ h => by omega))).trans (hs4.mono (fun k _ e => by omega))).mono (fun k h h' => by omega)
    · refine ⟨⟨_, rfl⟩, .inr ⟨_, h7, fun W2 hs2 _ => ?_⟩⟩
      have hc2 := hs2.cell h2 (by simp; omega)
      have hd2 := hs2.block h8 (by omega)
      have hs3 := h6.trans (hs2.mono (fun k _ e => by omega))
      have HEM := Lib.hid hem
      clear hem
      gi_wp2
      refine leaves_mark hd2 fun W3 hs4 _ => ⟨results_cell1 rfl (by rfl) (loadVar4 _ _ _ (hs4.cell hc2 (by simp; omega))), by rw [HEM.out], ?_⟩
      exact (hs3.trans (hs4.mono (fun k _ e => by omega))).mono (fun k h h' => by omega)
end Go.Proofs.Ytlbgnmcjdmdjpaa
