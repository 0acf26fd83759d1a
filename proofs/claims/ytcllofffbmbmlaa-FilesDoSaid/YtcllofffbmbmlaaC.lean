import Derived.Test.YtcllofffbmbmlaaB
import Derived.Maps.Own
namespace Go.Proofs.Ytcllofffbmbmlaa
open Go.RowKit Go.Shelf
attribute [local go_sem] Oper.semAt_some MapIs_alloc MapIs_setCell MapIs_drewN MapIs_drew

theorem Rep.lt {w : World} {f m : Nat} {L : List Ent} {al : List (Int × Value)} (h : Rep w f m L al) : f < w.heap.size ∧ m < w.heap.size := ⟨World.block_lt_of_cell? _ _ h.f0, h.hm.lt⟩

def nils : Array Value := #[.pointer none, .pointer none, .pointer none, .pointer none, .pointer none, .pointer none, .pointer none, .pointer none]

theorem Rep.addRow {w w1 : World} {f m : Nat} {L : List Ent} {al : List (Int × Value)} (h : Rep w f m L al) {pid : Int} (hn : aget al pid = none)
    (hs : Same (· = m) (w.alloc (.cells nils 80)) w1) (hm1 : MapIs kvi w1 m (aset al pid (.pointer (some ⟨w.heap.size, 0, none⟩)))) :
    Rep w1 f m L (aset al pid (.pointer (some ⟨w.heap.size, 0, none⟩))) := by
  have h0 : Rep (w.alloc (.cells nils 80)) f m L al := h.same0 (same_alloc _)
  have hmn : m < w.heap.size := h.lt.2
  have lt : ∀ {a : Addr} {v : Value}, w.cell? a = some v → a.block < w.heap.size := fun hc => World.block_lt_of_cell? _ _ hc
  have sh : ∀ {b t n}, w.shape? b = some (t, n) → b ≠ m := by
    intro b t n hb e
    subst e
    obtain ⟨es, clk, h1, _⟩ := h.hm
    unfold World.shape? at hb; rw [h1] at hb; cases hb
  have hkeys := keys_aset (al := al) (n := pid) (x := Value.pointer (some ⟨w.heap.size, 0, none⟩))
  rw [if_neg (aget_none.1 hn)] at hkeys
  refine ⟨hs.cell h0.f0 (sh h.fs), hs.cell h0.f1 (sh h.fs), hs.unfrozen h0.f1 h0.ff (sh h.fs), (hs.shp f (by simp; have := h.lt.1; omega)).trans h0.fs, hm1, ?_, ?_, ?_, ?_, ?_, h.rng, h.key, h.lof, ?_, h.lob⟩
  rotate_right
  · intro p rb hpv
    rcases mem_aset hpv with e | hpv
    · simp only [Prod.mk.injEq, Value.pointer.injEq, Option.some.injEq, Addr.mk.injEq, and_true] at e
      omega
    · exact h.lor p rb hpv
  · rw [hkeys, List.nodup_append]
    refine ⟨h.nd, by simp, ?_⟩
    intro a ha b hb
    simp only [List.mem_singleton] at hb
    subst hb
    exact fun e => aget_none.1 hn (e ▸ ha)
  · intro p v hpv
    rcases mem_aset hpv with e | hpv
    · simp only [Prod.mk.injEq] at e
      obtain ⟨rfl, rfl⟩ := e
      have hne : ¬ w.heap.size = m := by omega
      have hcell : ∀ i, i < 8 → (w.alloc (.cells nils 80)).cell? ⟨w.heap.size, i, none⟩ = some (.pointer none) := by
        intro i hi
        rw [World.cell?_alloc_new]
        match i, hi with
        | 0, _ | 1, _ | 2, _ | 3, _ | 4, _ | 5, _ | 6, _ | 7, _ => rfl
      refine ⟨w.heap.size, rfl, fun i hi => ?_, fun i hi => ?_, ?_⟩
      · rw [hs.cell (hcell i hi) hne]
        simp [slot, ent_none_of h hn, pv]
      · exact hs.unfrozen (hcell i hi) (by simp) hne
      · rw [hs.shp _ (by simp)]
        unfold World.shape?
        rw [World.alloc_heap_new]
        rfl
    · obtain ⟨rb, h1, h2, h3, h4⟩ := h0.row p v hpv
      obtain ⟨rb', h1', _, _, h4'⟩ := h.row p v hpv
      obtain rfl : rb = rb' := by rw [h1] at h1'; simpa using h1'
      have hlt : rb < (w.alloc (.cells nils 80)).heap.size := World.block_lt_of_cell? _ _ (h2 0 (by omega))
      exact ⟨rb, h1, fun i hi => hs.cell (h2 i hi) (sh h4'), fun i hi => hs.unfrozen (h2 i hi) (h3 i hi) (sh h4'), (hs.shp rb hlt).trans h4⟩
  · intro p q v hp hq
    have old : ∀ {p : Int}, (p, Value.pointer (some ⟨w.heap.size, 0, none⟩)) ∈ al → False := by
      intro p hp
      obtain ⟨rb, h1, h2, _⟩ := h.row p _ hp
      simp only [Value.pointer.injEq, Option.some.injEq, Addr.mk.injEq, and_true] at h1
      have := lt (h2 0 (by omega))
      simp at this; omega
    rcases mem_aset hp with e1 | hp <;> rcases mem_aset hq with e2 | hq
    · simp only [Prod.mk.injEq] at e1 e2; rw [e1.1, e2.1]
    · simp only [Prod.mk.injEq] at e1; rw [e1.2] at hq; exact (old hq).elim
    · simp only [Prod.mk.injEq] at e2; rw [e2.2] at hp; exact (old hp).elim
    · exact h.inj p q v hp hq
  · intro e he
    rw [hkeys]
    exact List.mem_append_left _ (h.has e he)
  · intro e he
    obtain ⟨h1, h2, h3, h4, h5⟩ := h0.file e he
    obtain ⟨_, _, _, _, h5'⟩ := h.file e he
    have hlt : e.blk < (w.alloc (.cells nils 80)).heap.size := World.block_lt_of_cell? _ _ h1
    exact ⟨hs.cell h1 (sh h5'), hs.cell h2 (sh h5'), hs.cell h3 (sh h5'), hs.unfrozen h3 h4 (sh h5'), (hs.shp _ hlt).trans h5⟩

/-- What 'row' leaves: the row is there. -/
def HasRow (w : World) (f m : Nat) (L : List Ent) (al : List (Int × Value)) (pid : Int) (rb : Nat) (al' : List (Int × Value)) (w' : World) : Prop :=
  Rep w' f m L al' ∧ aget al' pid = some (.pointer (some ⟨rb, 0, none⟩)) ∧ Same (· = m) w w' ∧ (∀ q v, aget al q = some v → aget al' q = some v)

set_option maxHeartbeats 800000 in
theorem row_any {w : World} {f m : Nat} {L : List Ent} {al : List (Int × Value)} (h : Rep w f m L al) (pid : Int) :
    Calls Try.prog 24 #[.pointer (some ⟨f, 0, none⟩), .int .i64 pid] w fun e w' => ∃ rb al', e = .returned (.pointer (some ⟨rb, 0, none⟩)) ∧ HasRow w f m L al pid rb al' w' := by
  have hf0 := h.f0
  have hlf : f < w.heap.size := World.block_lt_of_cell? _ _ hf0
  have hm := h.hm
  have hlk := fun (W : World) (hm : MapIs kvi W m al) => lk57 hm pid
  cases hg : aget al pid with
  | none =>
    go_enter Try.func24, Try.ntmps24
    go_wp2_with (at_mapUpdate; refine wpList_mapUpdate_is rfl _ _ _ rfl Try.underlying57 (key_int Try.underlying3) (MapIs_alloc hm _) rfl pid rfl rfl ?_; intro w1 hs1 hz1 hm1)
    go_ret
    exact ⟨w.heap.size, _, rfl, h.addRow hg hs1 hm1, by rw [aget_aset]; simp, ((same_alloc _).mono (fun _ _ h => h.elim)).trans hs1, fun q v hq => by rw [aget_aset, if_neg (fun e => by rw [e, hg] at hq; cases hq)]; exact hq⟩
  | some v =>
    obtain ⟨rb, rfl, hr, hz, hs⟩ := h.row pid v (aget_mem hg)
    clear hr hz
    go_enter Try.func24, Try.ntmps24
    go_wp2
    go_ret
    exact ⟨rb, al, rfl, h, hg, Same.refl _ _, fun q v hq => hq⟩

theorem count_any {w : World} {f m : Nat} {L : List Ent} {al : List (Int × Value)} (h : Rep w f m L al) :
    Calls Try.prog 13 #[.pointer (some ⟨f, 0, none⟩)] w fun e w' => e = .returned (.int .i64 (cnt L)) ∧ w = w' := by
  have hf1 := h.f1
  go_enter Try.func13, Try.ntmps13
  go_wp2
  go_ret
  exact ⟨rfl, rfl⟩

theorem new_any (w : World) : Calls Try.prog 11 #[] w fun e w' => ∃ f m, e = .returned (.pointer (some ⟨f, 0, none⟩)) ∧ Rep w' f m [] [] ∧ Same (fun _ => False) w w' ∧ w.heap.size ≤ m := by
  have hmm := @run_makeMap Try.prog
  go_enter Try.func11, Try.ntmps11
  go_wp2
  go_ret
  refine ⟨w.heap.size + 1, w.heap.size, rfl, ?_, (same_alloc _).alloc _, Nat.le_refl _⟩
  have hsz : (w.alloc (.map #[] 0)).heap.size = w.heap.size + 1 := by simp
  obtain ⟨w1, hw1⟩ : ∃ w1, w.alloc (.map #[] 0) = w1 := ⟨_, rfl⟩
  rw [hw1] at hsz ⊢
  rw [← hsz]
  refine ⟨by simp, by simp [cnt], by simp, ?_, MapIs_alloc ⟨#[], 0, ?_, rfl⟩ _, by simp, by simp, by simp, by simp, by simp, by simp, by simp, by omega, by simp, by simp⟩
  · unfold World.shape?
    rw [World.alloc_heap_new]
    rfl
  · rw [← hw1]; exact World.alloc_heap_new w _

theorem ent_cons (e : Ent) (L : List Ent) (p q : Int) : ent (e :: L) p q = if e.pid = p ∧ (e.fd : Int) = q then some e else ent L p q := by
  unfold ent
  rw [List.find?_cons]
  by_cases h : e.pid = p ∧ (e.fd : Int) = q <;> simp [h]
theorem slot_cons (e : Ent) (L : List Ent) (p : Int) (i : Nat) : slot (e :: L) p i = if e.pid = p ∧ e.fd = i then some e.blk else slot L p i := by
  unfold slot
  rw [ent_cons]
  by_cases h : e.pid = p ∧ e.fd = i
  · have : e.pid = p ∧ (e.fd : Int) = i := by omega
    simp [h, this]
  · have : ¬ (e.pid = p ∧ (e.fd : Int) = i) := by omega
    simp [h, this]
theorem refs_cons (e : Ent) (L : List Ent) (b : Nat) : refs (e :: L) b = refs L b + if e.blk = b then 1 else 0 := by
  unfold refs
  rw [List.filter_cons]
  by_cases h : e.blk = b <;> simp [h]
theorem refs_zero {L : List Ent} {b : Nat} (h : ∀ e ∈ L, e.blk ≠ b) : refs L b = 0 := by
  unfold refs
  simp only [List.length_eq_zero_iff, List.filter_eq_nil_iff, decide_eq_true_eq]
  exact h

/-- A cell is stored: how a block reads. -/
theorem cell_store {w : World} {a b : Addr} {v u : Value} (hb : w.cell? b = some u) : (w.setCell a v).cell? b = some (if a = b then v else u) := by
  by_cases e : a = b
  · subst e; rw [if_pos rfl]; exact World.cell?_setCell_same _ _ _ hb
  · rw [if_neg e, World.cell?_setCell_other _ _ _ _ e]; exact hb
theorem cell_old {w : World} {b : Addr} {u : Value} (hb : w.cell? b = some u) (o : Obj) : (w.alloc o).cell? b = some u :=
  (World.cell?_alloc_lt _ _ _ (World.block_lt_of_cell? _ _ hb)).trans hb
theorem frozen_old {w : World} {b : Addr} (hb : b.block < w.heap.size) (hf : w.frozen? b = false) (o : Obj) : (w.alloc o).frozen? b = false :=
  (World.frozen?_alloc_old _ _ _ (by omega)).trans hf
theorem shape_old {w : World} {b : Nat} (hb : b < w.heap.size) (o : Obj) : (w.alloc o).shape? b = w.shape? b := (same_alloc o).shp b hb

theorem Rep.open {w : World} {f m : Nat} {L : List Ent} {al : List (Int × Value)} (h : Rep w f m L al) {pid K T : Int} {rb k : Nat} (hr : aget al pid = some (.pointer (some ⟨rb, 0, none⟩))) (hk : k < 8)
    (hfree : ent L pid k = none) (hp : 1 ≤ pid) :
    Rep (((w.alloc (.cells #[.int .i64 K, .int .i64 T, .int .i64 1] 65)).setCell ⟨rb, k, none⟩ (.pointer (some ⟨w.heap.size, 0, none⟩))).setCell ⟨f, 1, none⟩ (.int .i64 (↑(cnt L) + 1))) f m (⟨pid, k, w.heap.size, K, T⟩ :: L) al := by
  have lt : ∀ {a : Addr} {v : Value}, w.cell? a = some v → a.block < w.heap.size := fun hc => World.block_lt_of_cell? _ _ hc
  have hlt := h.lt
  have hbf : ∀ e ∈ L, e.blk ≠ w.heap.size := fun e he => by have := lt (h.file e he).1; simp at this; omega
  obtain ⟨rb', hrb', hrow, hrz, hrs⟩ := h.row pid _ (aget_mem hr)
  obtain rfl : rb = rb' := by simpa using hrb'
  have hrlt := lt (hrow 0 (by omega))
  simp only at hrlt
  have ne_sh : ∀ {b b' t t' n n'}, w.shape? b = some (t, n) → w.shape? b' = some (t', n') → t ≠ t' → b ≠ b' := by
    intro b b' t t' n n' h1 h2 h3 e
    subst e; rw [h1] at h2; simp only [Option.some.injEq, Prod.mk.injEq] at h2; exact h3 h2.1
  have hrf : rb ≠ f := ne_sh hrs h.fs (by decide)
  have hc0 : cnt (⟨pid, k, w.heap.size, K, T⟩ :: L) = cnt L + 1 := by simp [cnt, refs_zero hbf]
  refine ⟨?_, ?_, ?_, ?_, ?_, h.nd, ?_, h.inj, ?_, ?_, ?_, ?_, h.lof, h.lor, ?_⟩
  rotate_right
  · intro e he
    rcases List.mem_cons.1 he with rfl | he
    · exact Nat.le_of_lt h.lt.2
    · exact h.lob e he
  · rw [cell_store (cell_store (cell_old h.f0 _))]; simp [hrf]
  · rw [cell_store (cell_store (cell_old h.f1 _)), hc0]; simp
  · simp [frozen_old hlt.1 h.ff]
  · rw [shape_setCell, shape_setCell, shape_old hlt.1]; exact h.fs
  · exact MapIs_setCell (MapIs_setCell (MapIs_alloc h.hm _) _ _) _ _
  · intro p v hpv
    obtain ⟨rc, h1, h2, h3, h4⟩ := h.row p v hpv
    have hrc := lt (h2 0 (by omega))
    simp only at hrc
    have hcf : rc ≠ f := ne_sh h4 h.fs (by decide)
    refine ⟨rc, h1, fun i hi => ?_, fun i hi => ?_, ?_⟩
    · rw [cell_store (cell_store (cell_old (h2 i hi) _)), slot_cons]
      by_cases hpp : pid = p
      · subst hpp
        obtain rfl : rb = rc := by
          have := aget_of_mem h.nd hpv
          rw [hr] at this
          simp only [Option.some.injEq] at this
          rw [← this] at h1
          simpa using h1
        by_cases hik : k = i
        · subst hik; simp [pv, hrf.symm]
        · simp [hik, hrf.symm]
      · have : rb ≠ rc := by
          intro e
          subst e
          refine hpp (h.inj pid p _ (aget_mem hr) ?_)
          rw [h1] at hpv; exact hpv
        simp [hpp, this, hcf.symm]
    · simp [frozen_old hrc (h3 i hi)]
    · rw [shape_setCell, shape_setCell, shape_old hrc]; exact h4
  · intro e he
    rcases List.mem_cons.1 he with rfl | he
    · exact List.mem_map.2 ⟨_, aget_mem hr, rfl⟩
    · exact h.has e he
  · intro e he
    rcases List.mem_cons.1 he with rfl | he
    · have n0 : ∀ (i : Nat) (x : Value), (#[Value.int .i64 K, .int .i64 T, .int .i64 1] : Array Value)[i]? = some x →
          (((w.alloc (.cells #[.int .i64 K, .int .i64 T, .int .i64 1] 65)).setCell ⟨rb, k, none⟩ (.pointer (some ⟨w.heap.size, 0, none⟩))).setCell ⟨f, 1, none⟩ (.int .i64 (↑(cnt L) + 1))).cell? ⟨w.heap.size, i, none⟩ = some x := by
        intro i x hx
        rw [cell_store (cell_store (by rw [World.cell?_alloc_new]; exact hx))]
        have e1 : ¬ rb = w.heap.size := by omega
        have e2 : ¬ f = w.heap.size := by omega
        simp [e1, e2]
      refine ⟨n0 0 _ rfl, n0 1 _ rfl, ?_, by simp, ?_⟩
      · rw [refs_cons, refs_zero hbf]; simpa using n0 2 _ rfl
      · rw [shape_setCell, shape_setCell]
        unfold World.shape?
        rw [World.alloc_heap_new]
        rfl
    · obtain ⟨h1, h2, h3, h4, h5⟩ := h.file e he
      have hbl := lt h1
      simp only at hbl
      have e1 : rb ≠ e.blk := ne_sh hrs h5 (by decide)
      have e2 : f ≠ e.blk := ne_sh h.fs h5 (by decide)
      refine ⟨?_, ?_, ?_, ?_, ?_⟩
      · rw [cell_store (cell_store (cell_old h1 _))]; simp [e1, e2]
      · rw [cell_store (cell_store (cell_old h2 _))]; simp [e1, e2]
      · have e3 : ¬ w.heap.size = e.blk := fun e' => hbf e he e'.symm
        rw [cell_store (cell_store (cell_old h3 _)), refs_cons]; simp [e1, e2, e3]
      · simp [frozen_old (b := ⟨e.blk, 2, none⟩) hbl h4]
      · rw [shape_setCell, shape_setCell, shape_old hbl]; exact h5
  · intro e he
    rcases List.mem_cons.1 he with rfl | he
    · exact ⟨hk, hp⟩
    · exact h.rng e he
  · refine List.pairwise_cons.2 ⟨fun e he => ?_, h.key⟩
    rintro ⟨h1, h2⟩
    simp only at h1 h2
    unfold ent at hfree
    rw [List.find?_eq_none] at hfree
    have := hfree e he
    simp only [decide_eq_true_eq] at this
    omega
end Go.Proofs.Ytcllofffbmbmlaa
