/- proc: Fork. Conditions: the table's form, numbers' bounds. -/
import Derived.Test.YtaeabeofpkfadaaP
import Derived.BigRegion
namespace Go.Proofs.Ytaeabeofpkfadaa
open Go.RowKit Go.Shelf
attribute [local go_sem] Oper.semAt_some

theorem fork_nil (w : World) (pid : Int) : Calls Try.prog 13 #[.pointer none, .int .i64 pid] w fun e w' => e = .returned (.tuple #[.int .i64 0, .int .i64 1]) ∧ w' = w := by
  go_enter Try.func13, Try.ntmps13
  go_wp2_with fail
  refine (running_nil _ pid).mono ?_
  rintro e w1 ⟨rfl, rfl⟩
  go_wp2
  go_ret2
  exact ⟨rfl, rfl⟩
theorem rn_some {L : List Pr} {pid : Int} {p : Pr} {e : Int} (h : rn L pid = (some p, e)) : lget L pid = some p ∧ p.st = 1 ∧ e = 0 := by
  unfold rn at h
  split at h
  · simp at h
  · split at h
    · simp only [Prod.mk.injEq, Option.some.injEq] at h
      obtain ⟨rfl, rfl⟩ := h
      exact ⟨by assumption, by assumption, rfl⟩
    · simp at h
theorem rn_none {L : List Pr} {pid : Int} {e : Int} (h : rn L pid = (none, e)) : e = 60 ∨ e = 2 := by
  unfold rn at h
  split at h
  · simp at h; omega
  · split at h <;> simp at h; omega
theorem fork_bad {w : World} {t m : Nat} {L : List Pr} {last : Int} (h : TabAt w t m L last) (pid : Int) {er : Int} (hr : rn L pid = (none, er)) :
    Calls Try.prog 13 #[.pointer (some ⟨t, 0, none⟩), .int .i64 pid] w fun e w' => e = .returned (.tuple #[.int .i64 0, .int .i64 er]) ∧ Same (fun _ => False) w w' := by
  have hra := running_any h pid
  rw [hr] at hra
  simp only [pv] at hra
  have he : (er == 0) = false := by rcases rn_none hr with rfl | rfl <;> rfl
  clear h hr
  go_enter Try.func13, Try.ntmps13
  go_wp2_with fail
  refine hra.mono ?_
  rintro e w1 ⟨rfl, hs1⟩
  go_wp2
  go_ret2
  exact ⟨rfl, hs1⟩
theorem aset_new : ∀ (L : List Pr) (k : Int) (v : Value), (∀ q ∈ L, q.pid ≠ k) → aset (alOf L) k v = alOf L ++ [(k, v)]
  | [], _, _, _ => rfl
  | q :: L, k, v, h => by
    have h1 := aset_new L k v (fun x hx => h x (List.mem_cons_of_mem _ hx))
    have h2 := h q (List.mem_cons_self ..)
    have h3 : ¬ k = q.pid := fun e => h2 e.symm
    unfold alOf at h1 ⊢
    simp [aset, h1, h2, h3]
/-- The child. -/
def kid (last pid : Int) (p : Pr) (b : Nat) : Pr := ⟨last + 1, pid, 1, p.uid, p.gid, ⟨#[]⟩, 0, false, b⟩
theorem TabAt.len {w : World} {t m : Nat} {L : List Pr} {last : Int} (h : TabAt w t m L last) : ∃ es clk, w.heap[m]? = some (.map es clk) ∧ es.size = L.length := by
  obtain ⟨es, clk, h1, hst, h2⟩ := h.hm
  exact ⟨es, clk, h1, by have := congrArg List.length h2; simpa [alOf] using this⟩
theorem TabAt.lenRun {w : World} {t m : Nat} {L : List Pr} {last : Int} (h : TabAt w t m L last) : (Builtin.len_ #[61] 3 #[.map (some m)]).run Try.prog w = .ok (.int .i64 L.length) w := by
  obtain ⟨es, clk, h1, h2⟩ := h.len
  unfold Builtin.len_
  simp [Sem.run_bind, run_underlying Try.underlying61, runGet h1, Result.andThen, Sem.run_pure, h2, goInt]
set_option maxHeartbeats 3200000 in
set_option maxRecDepth 16384 in
theorem fork_ok {w : World} {t m : Nat} {L : List Pr} {last : Int} (h : TabAt w t m L last) (pid : Int) {p : Pr} {er : Int} (hr : rn L pid = (some p, er)) (hL : L.length ≠ 16) (hl : last ≠ 30000) (hl2 : 1 ≤ last ∧ last ≤ 30000) (hlast : ∀ q ∈ L, q.pid ≤ last) :
    Calls Try.prog 13 #[.pointer (some ⟨t, 0, none⟩), .int .i64 pid] w fun e w' => ∃ b, e = .returned (.tuple #[.int .i64 (last + 1), .int .i64 0]) ∧ w.heap.size ≤ b ∧ TabAt w' t m (L ++ [kid last pid p b]) (last + 1) ∧ Same (fun k => k = t ∨ k = m) w w' := by
  have hra := running_any h pid
  rw [hr] at hra
  obtain ⟨hg, hst, rfl⟩ := rn_some hr
  simp only [pv] at hra
  have HR := Lib.hid hr
  have H := Lib.hid h
  have HLA := Lib.hid hlast
  have hpm := (lget_some hg).1
  clear h hr hlast
  go_enter Try.func13, Try.ntmps13
  go_wp2_with fail
  refine hra.mono ?_
  rintro e w1 ⟨rfl, hs1⟩
  have h1 := H.out.same0 hs1
  have hln := h1.lenRun
  have t0 := h1.t0
  have t1 := h1.t1
  have tz := h1.tz
  have hlt := h1.lt
  have H1 := Lib.hid h1
  have hes16 : ((L.length : Int) == 16) = false := by simp; omega
  have hl3 : (last == 30000) = false := by simpa using hl
  clear h1 hra
  go_wp2
  have hpb := hlt.2.2 p hpm
  have hnb := H1.out.nb p hpm
  have hp1 := H1.out.pr p hpm
  obtain ⟨w2, hw2⟩ : ∃ w2, w2 = w1.setCell ⟨t, 1, none⟩ (.int .i64 (last + 1)) := ⟨_, rfl⟩
  rw [← hw2]
  have hs2 : Same (· = t) w1 w2 := by rw [hw2]; exact (Same.refl _ _).setCell _ (.inr rfl)
  have u0 : w2.cell? ⟨t, 0, none⟩ = some (.map (some m)) := by rw [hw2]; simp [go_sem, t0]
  have u1 : w2.cell? ⟨t, 1, none⟩ = some (.int .i64 (last + 1)) := by rw [hw2]; exact World.cell?_setCell_same _ _ _ t1
  have uz : w2.frozen? ⟨t, 1, none⟩ = false := by rw [hw2]; simpa using tz
  have p3 := hs2.cell (hp1 3 _ rfl).1 hnb.1
  have p4 := hs2.cell (hp1 4 _ rfl).1 hnb.1
  have hm2 := H1.out.hm.same hs2 (fun e => H1.out.tm e.symm)
  have hz2 : w2.heap.size = w1.heap.size := by rw [hw2]; simp
  obtain ⟨X, hX⟩ : ∃ X : Array Value, X = #[.int .i64 (last + 1), .int .i64 pid, .int .i64 1, .int .i64 p.uid, .int .i64 p.gid, .string ⟨#[]⟩, .int .i64 0, .bool false] := ⟨_, rfl⟩
  have sA : Same (fun _ => False) w2 (w2.alloc (.cells X 34)) := same_alloc _
  have v0 := sA.cell u0 (fun h => h)
  have v1 := sA.cell u1 (fun h => h)
  have v3 := sA.cell p3 (fun h => h)
  have v4 := sA.cell p4 (fun h => h)
  obtain ⟨w3, hrun, r1, r2, r3⟩ := run_mapUpdate_is Try.underlying61 (key_int Try.underlying3) (MapIs_drew (MapIs_alloc hm2 (.cells X 34))) (last + 1) (Value.pointer (some ⟨w2.heap.size, 0, none⟩))
  have v0' : (w2.alloc (.cells X 34)).drew.cell? ⟨t, 0, none⟩ = some (.map (some m)) := v0
  have v1' : (w2.alloc (.cells X 34)).drew.cell? ⟨t, 1, none⟩ = some (.int .i64 (last + 1)) := v1
  have vz : (w2.alloc (.cells X 34)).drew.frozen? ⟨t, 1, none⟩ = false := sA.unfrozen u1 uz (fun h => h)
  have VZ := Lib.hid (And.intro v1' vz)
  have V0 := Lib.hid v0'
  have R1' := Lib.hid r1
  clear vz v0' v1'
  rw [hX] at v0 v1 v3 v4 hrun
  have HX := Lib.hid hX
  have HZ := Lib.hid hz2
  have hlt2 : t < w2.heap.size := by omega
  have hpb2 : p.b < w2.heap.size := by omega
  have R1 := Lib.hid r1
  have R3 := Lib.hid r3
  have HW2 := Lib.hid hs2
  clear hz2 hX sA hw2 t0 t1 tz hm2 hs2 hln hp1 r1 r3 hlt hpb
  go_region
  have r1 := R1.out
  have hzs : (w2.alloc (.cells X 34)).drew.heap.size = w2.heap.size + 1 := by simp
  have hne := H1.out.tm
  have x0 := r1.cell V0.out hne
  have x1 := r1.cell VZ.out.1 hne
  clear hrun v0 v1 v3 v4 u0 u1 p3 p4 R1 r1
  go_wp2
  go_ret2
  have r1 := R1'.out
  have hb : w.heap.size ≤ w2.heap.size := by have := hs1.size; have := HZ.out; omega
  have hsz1 := hs1.size
  refine ⟨w2.heap.size, rfl, hb, ?_, ?_⟩
  · have h1 := H1.out
    have sB : Same (fun k => k = t ∨ k = m) w1 w3 := (HW2.out.mono (T := fun k => k = t ∨ k = m) (fun _ _ h => .inl h)).trans ((((same_alloc (.cells X 34)).drew).mono (fun _ _ h => h.elim)).trans (r1.mono (fun _ _ h => .inr h)))
    have hlt := h1.lt
    refine ⟨x0, x1, r1.unfrozen VZ.out.1 VZ.out.2 hne, ?_, ?_, ?_, ?_, ?_, hne⟩
    · have := R3.out
      rw [aset_new L (last + 1) _ (fun q hq e => by have := HLA.out q hq; omega)] at this
      unfold alOf
      rw [List.map_append]
      exact this
    · intro q hq
      rcases List.mem_append.1 hq with hq | hq
      · exact (h1.pr q hq).same sB (by have := h1.nb q hq; omega)
      · obtain rfl := List.mem_singleton.1 hq
        intro i v hv
        have hm2 : ¬ w2.heap.size = m := by have := hlt.2.1; have := HZ.out; omega
        have hXv : X.toList[i]? = some v := by rw [HX.out]; exact hv
        have hc' : (w2.alloc (.cells X 34)).drew.cell? ⟨w2.heap.size, i, none⟩ = some v := by
          simp only [World.cell?_drew]
          have : (w2.alloc (.cells X 34)).cell? ⟨w2.heap.size, i, none⟩ = X[i]? := by simp
          rw [this, ← Array.getElem?_toList]
          exact hXv
        have hf' : (w2.alloc (.cells X 34)).drew.frozen? ⟨w2.heap.size, i, none⟩ = false := by simp
        exact ⟨r1.cell hc' hm2, r1.unfrozen hc' hf' hm2⟩
    · rw [List.pairwise_append]
      exact ⟨h1.asc, List.pairwise_singleton _ _, fun a ha b hb => by obtain rfl := List.mem_singleton.1 hb; have := HLA.out a ha; show a.pid < last + 1; omega⟩
    · rw [List.pairwise_append]
      exact ⟨h1.bi, List.pairwise_singleton _ _, fun a ha b hb => by obtain rfl := List.mem_singleton.1 hb; have := hlt.2.2 a ha; have := HZ.out; show a.b ≠ w2.heap.size; omega⟩
    · intro q hq
      rcases List.mem_append.1 hq with hq | hq
      · exact h1.nb q hq
      · obtain rfl := List.mem_singleton.1 hq
        have := HZ.out
        exact ⟨by show w2.heap.size ≠ t; omega, by show w2.heap.size ≠ m; have := hlt.2.1; omega⟩
  · exact (hs1.mono (T := fun k => k = t ∨ k = m) (fun _ _ h => h.elim)).trans ((HW2.out.mono (T := fun k => k = t ∨ k = m) (fun _ _ h => .inl h)).trans ((((same_alloc (.cells X 34)).drew).mono (fun _ _ h => h.elim)).trans (r1.mono (fun _ _ h => .inr h))))
end Go.Proofs.Ytaeabeofpkfadaa
