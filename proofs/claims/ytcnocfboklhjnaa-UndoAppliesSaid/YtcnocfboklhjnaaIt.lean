/- Maps told as lists of pairs: an entry laid and stored apart; a map's entries, one by one. Conditions: a law of the key's type. -/
import Derived.Test.YtcnocfboklhjnaaK
namespace Go.Proofs.Ytcnocfboklhjnaa
open Go.RowKit Go.Shelf

section
variable {κ : Type} [DecidableEq κ] {P : Program} {T K E : TypeId} {kv : κ → Value}
theorem findIdx_born {es : Array MapEntry} (hn : (es.toList.map (·.born)).Nodup) {j : Nat} {e : MapEntry} (hj : es[j]? = some e) : es.findIdx? (fun x => (x.born : Int) == (e.born : Int)) = some j := by
  have hlt := (Array.getElem?_eq_some_iff.1 hj).1
  have he := (Array.getElem?_eq_some_iff.1 hj).2
  rw [Array.findIdx?_eq_some_iff_getElem]
  refine ⟨hlt, by rw [he]; simp, fun i hi => ?_⟩
  have hil : i < es.size := by omega
  rw [List.Nodup, List.pairwise_map, List.pairwise_iff_getElem] at hn
  have := hn i j (by simpa using hil) (by simpa using hlt) hi
  simp only [Array.getElem_toList] at this
  rw [he] at this
  simp only [beq_iff_eq, Bool.not_eq_true, beq_eq_false_iff_ne, ne_eq]
  intro h
  exact this (by omega)
/-- An entry: laid with what was there; then stored. -/
theorem run_entry_is (hT : P.underlying T = some (.map K E)) (hK : KeyLaw P K kv) {z : Value} (hz : ∀ W, (zeroValue E).run P W = .ok z W) {w : World} {m : Nat} {al : List (κ × Value)} (hm : MapIs kv w m al) (n : κ) :
    ∃ (w1 : World) (s : Int), (Instr.mapEntry T (.map (some m)) (kv n)).run P w = .ok (.tuple #[(aget al n).getD z, .int .i64 s]) w1 ∧ Same (· = m) w w1 ∧ w1.heap.size = w.heap.size ∧ MapIs kv w1 m (aset al n ((aget al n).getD z)) ∧
      ∀ v, ∃ w2, (Instr.entryStore T (.map (some m)) (.int .i64 s) v).run P w1 = .ok () w2 ∧ Same (· = m) w1 w2 ∧ w2.heap.size = w1.heap.size ∧ MapIs kv w2 m (aset al n v) := by
  obtain ⟨es, clk, h1, hst, h2⟩ := hm
  have hf := hK.find n es.toList al w h2
  have hlt := (Array.getElem?_eq_some_iff.1 h1).1
  have hlen : es.size = al.length := by have := congrArg List.length h2; simpa using this
  -- what a store comes to where the entry lies at j
  have hstore : ∀ (w1 : World) (es1 : Array MapEntry) (clk1 : Nat) (al1 : List (κ × Value)) (j : Nat) (e : MapEntry) (u : Value), w1.heap[m]? = some (.map es1 clk1) → Go.MapKept.Stamped es1 clk1 → es1.toList.map (fun e => (e.key, e.val)) = al1.map (fun p => (kv p.1, p.2)) →
      es1[j]? = some e → al1[j]? = some (n, u) → ∀ v, ∃ w2, (Instr.entryStore T (.map (some m)) (.int .i64 (e.born : Int)) v).run P w1 = .ok () w2 ∧ Same (· = m) w1 w2 ∧ w2.heap.size = w1.heap.size ∧ MapIs kv w2 m (al1.set j (n, v)) := by
    intro w1 es1 clk1 al1 j e u g1 g2 g3 g4 g5 v
    have hlt1 := (Array.getElem?_eq_some_iff.1 g1).1
    have hj1 : j < es1.size := (Array.getElem?_eq_some_iff.1 g4).1
    have hkey : e.key = kv n := by
      have h6 : (es1.toList.map (fun e => (e.key, e.val)))[j]? = some (kv n, u) := by rw [g3]; simp [g5]
      rw [List.getElem?_map, Array.getElem?_toList, g4] at h6
      simp at h6; exact h6.1
    refine ⟨w1.putObj m (.map (es1.modify j fun e => { e with val := v }) clk1), ?_, same_putObj _ g1, by simp, _, _, World.putObj_heap_same hlt1, ?_, ?_⟩
    · simp only [Instr.entryStore, Sem.run_bind, runGet g1, Result.andThen]
      simp [asInt, asIntOf, Sem.run_pure, Result.andThen, findIdx_born g2.2.1 g4, runSet _ g1]
    · exact Go.MapKept.stamped_modify g2 j _ (fun e _ => rfl) (fun e _ he => rfl)
    · apply List.ext_getElem?
      intro i
      have h7 := congrArg (fun l => l[i]?) g3
      simp only [List.getElem?_map, Array.getElem?_toList, Array.getElem?_modify, List.getElem?_set] at h7 ⊢
      by_cases e1 : j = i
      · subst e1
        have hj' : j < al1.length := (List.getElem?_eq_some_iff.1 g5).1
        simp [g4, hj', hkey]
      · simp only [e1, if_false]
        simpa using h7
  cases hi : aidx al n with
  | none =>
    obtain ⟨h4, h3⟩ := aidx_none hi
    have hnew : ∀ x ∈ es.toList, x.key ≠ kv n := by
      intro x hx e
      have hx2 : (x.key, x.val) ∈ al.map (fun p => (kv p.1, p.2)) := by rw [← h2]; exact List.mem_map.2 ⟨x, hx, rfl⟩
      obtain ⟨p, hp, e2⟩ := List.mem_map.1 hx2
      have hpn : p.1 = n := hK.inj _ _ (by rw [← e]; exact (Prod.mk.inj e2).1)
      rw [aget_none] at h4
      exact h4 (List.mem_map.2 ⟨p, hp, hpn⟩)
    have hst1 := Go.MapKept.stamped_push (key := kv n) (val := z) hst hnew
    have hh1 : (w.putObj m (.map (es.push { key := kv n, val := z, born := clk }) (clk + 1))).heap[m]? = some (.map (es.push { key := kv n, val := z, born := clk }) (clk + 1)) := World.putObj_heap_same hlt
    have hl1 : (es.push { key := kv n, val := z, born := clk }).toList.map (fun e => (e.key, e.val)) = (aset al n z).map (fun p => (kv p.1, p.2)) := by rw [h3]; simp [h2]
    refine ⟨w.putObj m (.map (es.push { key := kv n, val := z, born := clk }) (clk + 1)), clk, ?_, same_putObj _ h1, by simp, ⟨_, _, hh1, hst1, by rw [h4]; exact hl1⟩, ?_⟩
    · unfold Instr.mapEntry
      simp only [Sem.run_bind, run_underlying hT, runGet h1, Result.andThen, hK.check, hf, hi, Option.bind_none, hz, runSet _ h1, Sem.run_pure, h4, Option.getD_none]
      rfl
    · intro v
      have hgx : (es.push { key := kv n, val := z, born := clk })[es.size]? = some { key := kv n, val := z, born := clk } := by simp
      obtain ⟨w2, q1, q2, q3, q4⟩ := hstore _ _ _ _ es.size _ z hh1 hst1 hl1 hgx (by rw [h3, hlen]; simp) v
      refine ⟨w2, q1, q2, q3, ?_⟩
      rw [h3, hlen] at q4
      rw [h3]
      simpa using q4
  | some j =>
    obtain ⟨u, h4, h3, h5, _⟩ := aidx_some hi
    have hj : j < es.size := by rw [hlen]; exact (List.getElem?_eq_some_iff.1 h4).1
    obtain ⟨e0, he0⟩ : ∃ e0, es[j]? = some e0 := ⟨_, Array.getElem?_eq_getElem hj⟩
    have hkv : e0.key = kv n ∧ e0.val = u := by
      have h6 : (es.toList.map (fun e => (e.key, e.val)))[j]? = some (kv n, u) := by rw [h2]; simp [h4]
      rw [List.getElem?_map, Array.getElem?_toList, he0] at h6
      simp at h6; exact h6
    have hmod : es.modify j (fun e => { e with key := kv n }) = es := by
      apply Array.ext_getElem?
      intro i
      rw [Array.getElem?_modify]
      by_cases e1 : j = i
      · subst e1; rw [if_pos rfl, he0, ← hkv.1]; rfl
      · rw [if_neg e1]
    have hh1 : (w.putObj m (.map es clk)).heap[m]? = some (.map es clk) := World.putObj_heap_same hlt
    have hset : aset al n u = al := by
      rw [h5]
      apply List.ext_getElem?
      intro i
      rw [List.getElem?_set]
      by_cases e1 : j = i
      · subst e1
        have : j < al.length := (List.getElem?_eq_some_iff.1 h4).1
        rw [if_pos rfl, if_pos this, h4]
      · rw [if_neg e1]
    refine ⟨w.putObj m (.map es clk), e0.born, ?_, same_putObj _ h1, by simp, ⟨_, _, hh1, hst, by rw [h3]; simp only [Option.getD_some]; rw [hset]; exact h2⟩, ?_⟩
    · unfold Instr.mapEntry
      simp only [Sem.run_bind, run_underlying hT, runGet h1, Result.andThen, hK.check, hf, hi, Option.bind_some, h3, Option.map_some, he0, Option.getD_some, hkv.1, hK.stays, runSet _ h1, Sem.run_pure, hmod, goInt]
    · intro v
      obtain ⟨w2, q1, q2, q3, q4⟩ := hstore _ _ _ _ j _ u hh1 hst h2 he0 h4 v
      exact ⟨w2, q1, q2, q3, by rw [h5]; exact q4⟩
end

/-- An iterator of block r stands over the map of block m. -/
structure IterAt (W : World) (r m : Nat) (es : Array MapEntry) (clk : Nat) (seen : Array Nat) : Prop where
  it : W.heap[r]? = some (.mapIter (some m) clk seen clk)
  mp : W.heap[m]? = some (.map es clk)
theorem next_is {P : Program} {W : World} {r m clk : Nat} {es : Array MapEntry} {seen : Array Nat} (hst : Go.MapKept.Stamped es clk) (h : IterAt W r m es clk seen) (hrm : r ≠ m) (ty : TypeId) :
    ((leftOf es seen).size = 0 ∧ (Instr.next (.pointer (some ⟨r, 0, none⟩)) false ty).run P W = .ok (.tuple #[.bool false]) W) ∨
    ∃ (e : MapEntry) (W1 : World), e ∈ (leftOf es seen).toList ∧ (Instr.next (.pointer (some ⟨r, 0, none⟩)) false ty).run P W = .ok (.tuple #[.bool true, e.key, e.val]) W1 ∧ Same (· = r) W W1 ∧ W1.heap.size = W.heap.size ∧ IterAt W1 r m es clk (seen.push e.born) := by
  rcases run_next_at (P := P) W ty r m clk clk seen es clk h.it h.mp hst.1 (Nat.le_refl _) with h0 | ⟨e, he, w1, hw1, hrun⟩
  · exact .inl h0
  · have hs : Same (· = r) W w1 ∧ w1.heap = W.heap := by
      rcases hw1 with rfl | rfl
      · exact ⟨Same.refl _ _, rfl⟩
      · exact ⟨(Same.refl _ _).drew, rfl⟩
    have hr1 : w1.heap[r]? = some (.mapIter (some m) clk seen clk) := by rw [hs.2]; exact h.it
    have hlt := (Array.getElem?_eq_some_iff.1 hr1).1
    refine .inr ⟨e, _, he, hrun, hs.1.trans (same_putObj (.mapIter (some m) clk (seen.push e.born) clk) hr1), ?_, ?_, ?_⟩
    · show (w1.putObj r _).heap.size = _
      simp [hs.2]
    · exact World.putObj_heap_same hlt
    · exact (World.putObj_heap_other (fun e => hrm e.symm)).trans (by rw [hs.2]; exact h.mp)
theorem entry_is {P : Program} {W : World} {r m clk : Nat} {es : Array MapEntry} {seen : Array Nat} {e : MapEntry} (hst : Go.MapKept.Stamped es clk) (h : IterAt W r m es clk (seen.push e.born)) (he : e ∈ es.toList) :
    (Instr.entry (.pointer (some ⟨r, 0, none⟩))).run P W = .ok (.tuple #[e.key, e.val]) W := run_entry_at W r m clk seen es clk e h.it h.mp he hst.2.1
theorem leftOf_mem {es : Array MapEntry} {seen : Array Nat} {e : MapEntry} : e ∈ (leftOf es seen).toList ↔ e ∈ es.toList ∧ e.born ∉ seen.toList := by
  simp [leftOf]
theorem nodup_len {α : Type} [DecidableEq α] : ∀ {a b : List α}, a.Nodup → (∀ x ∈ a, x ∈ b) → a.length ≤ b.length
  | [], b, _, _ => Nat.zero_le _
  | x :: a, b, h, g => by
    rw [List.nodup_cons] at h
    have h1 := g x (List.mem_cons_self ..)
    have := nodup_len (a := a) (b := b.erase x) h.2 (fun y hy => by
      have hne : y ≠ x := fun e => h.1 (e ▸ hy)
      exact (List.mem_erase_of_ne hne).2 (g y (List.mem_cons_of_mem _ hy)))
    rw [List.length_erase_of_mem h1] at this
    have hp : 0 < b.length := List.length_pos_of_mem h1
    rw [List.length_cons]
    omega
theorem born_inj {l : List MapEntry} (h : (l.map (·.born)).Nodup) {x y : MapEntry} (hx : x ∈ l) (hy : y ∈ l) (e : x.born = y.born) : x = y := by
  rw [List.Nodup, List.pairwise_map, List.pairwise_iff_getElem] at h
  obtain ⟨i, hi, rfl⟩ := List.getElem_of_mem hx
  obtain ⟨j, hj, rfl⟩ := List.getElem_of_mem hy
  rcases Nat.lt_trichotomy i j with g | g | g
  · exact absurd e (h i j hi hj g)
  · subst g; rfl
  · exact absurd e.symm (h j i hj hi g)
/-- The keys that have come. -/
structure Came (es : Array MapEntry) (seen : Array Nat) (ks : List Value) : Prop where
  vis : ∃ vs : List MapEntry, (∀ e ∈ vs, e ∈ es.toList) ∧ seen.toList = vs.map (·.born) ∧ ks = vs.map (·.key)
  nd : seen.toList.Nodup
theorem Came.start (es : Array MapEntry) : Came es #[] [] := ⟨⟨[], by simp, rfl, rfl⟩, by simp⟩
theorem Came.step {es : Array MapEntry} {seen : Array Nat} {ks : List Value} (h : Came es seen ks) {e : MapEntry} (he : e ∈ (leftOf es seen).toList) : Came es (seen.push e.born) (ks ++ [e.key]) := by
  obtain ⟨h1, h2⟩ := leftOf_mem.1 he
  obtain ⟨vs, g1, g2, g3⟩ := h.vis
  refine ⟨⟨vs ++ [e], ?_, by simp [g2], by simp [g3]⟩, ?_⟩
  · intro x hx
    rcases List.mem_append.1 hx with hx | hx
    · exact g1 x hx
    · rw [List.mem_singleton.1 hx]; exact h1
  · rw [Array.toList_push, List.nodup_append]
    exact ⟨h.nd, by simp, fun a ha b hb e' => by rw [List.mem_singleton] at hb; subst hb; subst e'; exact h2 ha⟩
theorem Came.vis_nodup {es : Array MapEntry} {seen : Array Nat} {ks : List Value} (h : Came es seen ks) : ∃ vs : List MapEntry, (∀ e ∈ vs, e ∈ es.toList) ∧ vs.Nodup ∧ seen.toList = vs.map (·.born) ∧ ks = vs.map (·.key) := by
  obtain ⟨vs, g1, g2, g3⟩ := h.vis
  refine ⟨vs, g1, ?_, g2, g3⟩
  have := h.nd
  rw [g2] at this
  rw [List.Nodup, List.pairwise_map] at this
  exact this.imp (fun h e => h (by rw [e]))
theorem Came.len {es : Array MapEntry} {seen : Array Nat} {ks : List Value} (h : Came es seen ks) : ks.length ≤ es.size := by
  obtain ⟨vs, g1, gn, g2, g3⟩ := h.vis_nodup
  have := nodup_len h.nd (b := es.toList.map (·.born)) (fun x hx => by
    rw [g2] at hx
    obtain ⟨y, hy, rfl⟩ := List.mem_map.1 hx
    exact List.mem_map.2 ⟨y, g1 y hy, rfl⟩)
  rw [g2] at this
  rw [g3]; simpa using this
theorem Came.done {es : Array MapEntry} {clk : Nat} {seen : Array Nat} {ks : List Value} (h : Came es seen ks) (hst : Go.MapKept.Stamped es clk) (h0 : (leftOf es seen).size = 0) : ks.Perm (es.toList.map (·.key)) := by
  obtain ⟨vs, g1, gn, g2, g3⟩ := h.vis_nodup
  rw [g3]
  refine List.Perm.map _ ?_
  have hen : es.toList.Nodup := by
    have := hst.2.1
    rw [List.Nodup, List.pairwise_map] at this
    exact this.imp (fun h e => h (by rw [e]))
  rw [List.perm_ext_iff_of_nodup gn hen]
  intro e
  refine ⟨g1 e, fun he => ?_⟩
  have hin : e.born ∈ seen.toList := by
    by_cases hc : e.born ∈ seen.toList
    · exact hc
    · have := leftOf_mem.2 ⟨he, hc⟩
      have : 0 < (leftOf es seen).toList.length := List.length_pos_of_mem this
      simp at this
      omega
  rw [g2] at hin
  obtain ⟨x, hx, hb⟩ := List.mem_map.1 hin
  have hxe : x = e := born_inj hst.2.1 (g1 x hx) he hb
  rw [← hxe]; exact hx
theorem leftOf_step {es : Array MapEntry} {seen : Array Nat} {e : MapEntry} (he : e ∈ (leftOf es seen).toList) : (leftOf es (seen.push e.born)).size < (leftOf es seen).size := by
  obtain ⟨h1, h2⟩ := leftOf_mem.1 he
  have hsub : leftOf es (seen.push e.born) = (leftOf es seen).filter (fun x => decide (x.born ≠ e.born)) := by
    unfold leftOf
    rw [Array.filter_filter]
    congr 1
    funext x
    simp [Bool.and_comm]
  rw [hsub]
  have h3 : e ∈ leftOf es seen := by simpa using he
  have := List.length_filter_lt_length_iff_exists (l := (leftOf es seen).toList) (p := fun x => decide (x.born ≠ e.born))
  have e1 : (Array.filter (fun x => decide (x.born ≠ e.born)) (leftOf es seen)).size = (List.filter (fun x => decide (x.born ≠ e.born)) (leftOf es seen).toList).length := by rw [← Array.length_toList, Array.toList_filter]
  rw [e1, ← Array.length_toList]
  exact this.2 ⟨e, he, by simp⟩
end Go.Proofs.Ytcnocfboklhjnaa
