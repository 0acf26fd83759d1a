/- proc: Wake on both tables, in whatever order. Conditions: their form. -/
import Derived.Test.YtaeabeofpkfadaaDc
import Derived.Deep.RegionWith
namespace Go.Proofs.Ytaeabeofpkfadaa
open Go.RowKit Go.Shelf
attribute [local go_sem] Oper.semAt_some

/-- Both tables, woken or not yet; what was handed back. -/
structure Wk2 (s : Nat) (w0 : World) (t m r g0 : Nat) (L : List Pr) (last : Int) (ch c : ByteArray) (q1 q2 : Option Value) (w : World) : Prop where
  tab : TabAt w t m (if q1.isSome then L.map (wk c) else L) last
  ref : ∃ g cap, RAt s w r g cap (if q2.isSome then L.map (wk c) else L) last ∧ (q2 = none → g = g0) ∧ (g = g0 ∨ w0.heap.size < g)
  c5 : w.cell? ⟨w0.heap.size, 5, none⟩ = some (.string ch)
  o1 : ∀ v, q1 = some v → w.ownsRow (w0.heap.size + 1) 3 1 v (woken L c).length (wv L c)
  o2 : ∀ v, q2 = some v → w.ownsRow (w0.heap.size + 1) 3 1 v (woken L c).length (wv L c)
  same : Same (fun k => Own t m L k ∨ k = r ∨ k = g0) w0 w
  sz : w0.heap.size < w.heap.size
theorem own_map {t m : Nat} {L : List Pr} {c : ByteArray} {k : Nat} (h : Own t m (L.map (wk c)) k) : Own t m L k := by
  rcases h with e | e | ⟨q, hq, e⟩
  · exact .inl e
  · exact .inr (.inl e)
  · obtain ⟨y, hy, rfl⟩ := List.mem_map.1 hq
    exact .inr (.inr ⟨y, hy, by rw [← e]; exact (wk_id c y).2.symm⟩)
theorem wake_step {s : Nat} {w0 : World} {t m r g0 : Nat} {L L' : List Pr} {last : Int} {ch c : ByteArray} {q2 : Option Value} {w : World} (ha : Apart2 w0 t m r g0 L L') (hI : Inv L last) (hne : L ≠ []) (h : Wk2 s w0 t m r g0 L last ch c none q2 w) :
    Calls Try.prog 22 #[.pointer (some ⟨t, 0, none⟩), .string c] w fun e w' => ∃ v, e = .returned v ∧ Wk2 s w0 t m r g0 L last ch c (some v) q2 w' := by
  refine (wake_any h.tab hI.bd hne c).mono ?_
  rintro e w' ⟨v, rfl, ho, hT, hs⟩
  obtain ⟨g, cap, hR, hg1, hg2⟩ := h.ref
  have hx : ¬ Own t m L w0.heap.size := fun e => by have := (ha.own _ e).1; omega
  have hsz := h.sz
  have hsz2 := hs.size
  refine ⟨v, rfl, hT, ⟨g, cap, hR.same hs (fun e => (ha.own _ e).2.1 rfl) (fun e => by have := ha.own _ e; omega), hg1, hg2⟩, hs.cell h.c5 hx, fun v' hv => ?_, fun v' hv => ownsRow_same (h.o2 v' hv) hs (fun gx hgx e => by
    have := (ownsRow_shape (h.o2 v' hv) hgx).1
    have := (ha.own _ e).1
    omega), h.same.trans (hs.mono (fun _ _ e => .inl e)), by omega⟩
  cases hv
  exact ownsRow_base ho (by omega)
theorem rwake_step {s : Nat} {w0 : World} {t m r g0 : Nat} {L L' : List Pr} {last : Int} {ch c : ByteArray} {q1 : Option Value} {w : World} (ha : Apart2 w0 t m r g0 L L') (h : Wk2 s w0 t m r g0 L last ch c q1 none w) :
    Calls Try.prog 38 #[.pointer (some ⟨r, 0, none⟩), .string c] w fun e w' => ∃ v, e = .returned v ∧ Wk2 s w0 t m r g0 L last ch c q1 (some v) w' := by
  obtain ⟨g, cap, hR, hg1, hg2⟩ := h.ref
  obtain rfl := hg1 rfl
  refine (rwake_any hR c).mono ?_
  rintro e w' ⟨v, rfl, ho, g', cap', hR', hg', hs⟩
  have hr := ha.r
  have hgl := ha.g
  have hsz := h.sz
  have hsz2 := hs.size
  have hx : ¬ (w0.heap.size = r ∨ w0.heap.size = g) := by omega
  refine ⟨v, rfl, h.tab.same hs (fun k hk e => ?_), ⟨g', cap', hR', (fun h => by cases h), by omega⟩, hs.cell h.c5 hx, fun v' hv => ownsRow_same (h.o1 v' hv) hs (fun gx hgx e => by
    have := (ownsRow_shape (h.o1 v' hv) hgx).1
    omega), fun v' hv => ?_, h.same.trans' hs (fun k e hk => .inr e), by omega⟩
  · have hk' : Own t m L k := by
      cases q1
      · exact hk
      · exact own_map hk
    have := ha.own k hk'
    omega
  · cases hv
    exact ownsRow_base ho (by omega)
theorem Wk2.same0 {s : Nat} {w0 : World} {t m r g0 : Nat} {L : List Pr} {last : Int} {ch c : ByteArray} {q1 q2 : Option Value} {w w' : World} (h : Wk2 s w0 t m r g0 L last ch c q1 q2 w) (hs : Same (fun _ => False) w w') : Wk2 s w0 t m r g0 L last ch c q1 q2 w' := by
  obtain ⟨g, cap, hR, hg⟩ := h.ref
  exact ⟨h.tab.same0 hs, ⟨g, cap, hR.same0 hs, hg⟩, hs.cell h.c5 (fun h => h), fun v hv => ownsRow_same (h.o1 v hv) hs (fun _ _ h => h), fun v hv => ownsRow_same (h.o2 v hv) hs (fun _ _ h => h), h.same.trans (hs.mono (fun _ _ h => h.elim)), by have := h.sz; have := hs.size; omega⟩
theorem ints_step {s : Nat} {w0 : World} {t m r g0 : Nat} {L : List Pr} {last : Int} {ch c : ByteArray} {v1 v2 : Value} {w : World} (hL : L.length ≤ 16) (h : Wk2 s w0 t m r g0 L last ch c (some v1) (some v2) w) :
    Calls Try.prog 37 #[v1, v2] w fun e w' => e = .returned (.bool true) ∧ Wk2 s w0 t m r g0 L last ch c (some v1) (some v2) w' := by
  refine (ints_any (h.o1 v1 rfl) (h.o2 v2 rfl) (by have := woken_le L c; omega)).mono ?_
  rintro e w' ⟨rfl, hs⟩
  exact ⟨rfl, h.same0 hs⟩
set_option maxHeartbeats 12800000 in
set_option maxRecDepth 16384 in
theorem did_wake {s : Nat} {w : World} {t m r : Nat} {L : List Pr} {last : Int} (h : Both s w t m r L last) (d pid stat uid gid : Int) (ch : ByteArray) (hd : d % 8 = 7) :
    Calls Try.prog 18 #[.pointer (some ⟨t, 0, none⟩), .pointer (some ⟨r, 0, none⟩), .agg #[.int .i64 d, .int .i64 pid, .int .i64 stat, .int .i64 uid, .int .i64 gid, .string ch]] w (DidQ s w t m r L last ⟨d, pid, stat, uid, gid, txt ch⟩) := by
  have hs0 : Same (fun _ => False) w (w.alloc (.cells #[.int .i64 d, .int .i64 pid, .int .i64 stat, .int .i64 uid, .int .i64 gid, .string ch] 47)) := same_alloc _
  obtain ⟨g, cap, hR, hap⟩ := h.ref
  have hw8 := wrap8 d
  rw [hd] at hw8
  obtain ⟨c, hc⟩ : ∃ c, c = txt ch := ⟨_, rfl⟩
  have HAP := Lib.hid (show Apart2 w t m r g L (L.map (wk c)) from ⟨fun k hk => ⟨own_lt h.tab.tab hk, hap k hk⟩, fun k hk => own_map hk, hR.lt.1, hR.lt.2.1⟩)
  have HI := Lib.hid h.tab.inv
  have HNE := Lib.hid h.tab.ne
  have htx := fun W => text_any W ch
  simp only [← hc] at htx
  have D0 := Lib.hid (show Wk2 s w t m r g L last ch c none none (w.alloc (.cells #[.int .i64 d, .int .i64 pid, .int .i64 stat, .int .i64 uid, .int .i64 gid, .string ch] 47)).drew from
    ⟨(h.tab.tab.same0 hs0).same0 (Same.refl _ _).drew, ⟨g, cap, (hR.same0 hs0).same0 (Same.refl _ _).drew, fun _ => rfl, .inl rfl⟩, by simp, (fun v hv => by cases hv), (fun v hv => by cases hv), (hs0.mono (fun _ _ h => h.elim)).drew, by simp⟩)
  have HB := Lib.hid (show ∀ (w6 : World) (v1 v2 : Value), Wk2 s w t m r g L last ch c (some v1) (some v2) w6 → Both s w6 t m r (actL L last ⟨d, pid, stat, uid, gid, txt ch⟩ w.heap.size) (actLast L last ⟨d, pid, stat, uid, gid, txt ch⟩) ∧ ∃ g0, s ≤ g0 ∧ Same (fun k => Own t m L k ∨ k = r ∨ k = g0) w w6 from fun w6 v1 v2 hW => by
    obtain ⟨g2, cap2, hR2, -, hg2⟩ := hW.ref
    have h1 := hW.tab
    simp only [Option.isSome_some, if_true] at h1 hR2
    have hL : actL L last ⟨d, pid, stat, uid, gid, txt ch⟩ w.heap.size = L.map (wk c) := by rw [hc]; simp only [actL, hd]; rfl
    have hl : actLast L last ⟨d, pid, stat, uid, gid, txt ch⟩ = last := by simp only [actLast, hd]; rfl
    have hI := h.tab.inv.act ⟨d, pid, stat, uid, gid, txt ch⟩ w.heap.size
    have hS := h.st.act (last := last) ⟨d, pid, stat, uid, gid, txt ch⟩ w.heap.size
    rw [hL, hl] at *
    refine ⟨⟨⟨h1, hI⟩, hS, g2, cap2, hR2, fun k hk => ?_⟩, g, hR.lt.2.2, hW.same⟩
    have := HAP.out.own k (own_map hk)
    exact ⟨this.2.1, by omega⟩)
  clear h hR hap hs0 hc
  unfold DidQ
  go_enter Try.func18, Try.ntmps18
  go_wp2_with fail
  have hD := D0.out
  have hc5 := hD.c5
  go_region_with (first
    | (go_at_call 24; refine (htx _).mono ?_; rintro e' w' ⟨rfl, rfl⟩)
    | (go_at_call 22; refine (wake_step HAP.out HI.out HNE.out (by assumption)).mono ?_; rintro e' w' ⟨v1, rfl, hW1⟩; have hc5 := hW1.c5)
    | (go_at_call 38; refine (rwake_step HAP.out (by assumption)).mono ?_; rintro e' w' ⟨v2, rfl, hW2⟩; have hc5 := hW2.c5)
    | (go_at_call 37; refine (ints_step HI.out.len (by assumption)).mono ?_; rintro e' w' ⟨rfl, hW3⟩))
  all_goals go_wp2
  all_goals go_ret
  all_goals (have hbb := HB.out _ _ _ (by assumption); exact ⟨_, rfl, Nat.le_refl _, hbb.1, hbb.2⟩)
end Go.Proofs.Ytaeabeofpkfadaa
