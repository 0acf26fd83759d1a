import Derived.Test.YtcllofffbmbmlaaE
namespace Go.Proofs.Ytcllofffbmbmlaa
open Go.RowKit Go.Shelf
attribute [local go_sem] Oper.semAt_some MapIs_alloc MapIs_setCell MapIs_drewN MapIs_drew pv_none pv_some

set_option maxHeartbeats 800000 in
theorem are2 (w : World) (b : Nat) (n m : Int) (hc : w.cell? ⟨b, 0, none⟩ = some (.int .i64 n)) (hc2 : w.cell? ⟨b, 1, none⟩ = some (.int .i64 m)) :
    Calls Try.prog 36 #[.slice (some ⟨b, 0, none⟩) 2 2] w fun e w' => e = .returned (.bool (decide (1 ≤ n ∧ 1 ≤ m))) ∧ w = w' := by
  by_cases h : n < 1
  · go_enter Try.func36, Try.ntmps36
    go_wp2
    refine wp_loop_rounds 1 ?_
    rw [rounds_succ]
    go_wp2
    go_ret
    exact ⟨by simp; omega, rfl⟩
  · by_cases h2 : m < 1
    · go_enter Try.func36, Try.ntmps36
      go_wp2
      refine wp_loop_rounds 2 ?_
      rw [rounds_succ]
      go_wp2
      rw [rounds_succ]
      go_wp2
      go_ret
      exact ⟨by simp; omega, rfl⟩
    · go_enter Try.func36, Try.ntmps36
      go_wp2
      refine wp_loop_rounds 3 ?_
      rw [rounds_succ]
      go_wp2
      rw [rounds_succ]
      go_wp2
      rw [rounds_succ]
      go_wp2
      go_ret
      exact ⟨by simp; omega, rfl⟩
set_option maxHeartbeats 400000 in
theorem check2 (w : World) (b : Nat) (f : Addr) (n m : Int) (hc : w.cell? ⟨b, 0, none⟩ = some (.int .i64 n)) (hc2 : w.cell? ⟨b, 1, none⟩ = some (.int .i64 m)) :
    Calls Try.prog 23 #[.pointer (some f), .slice (some ⟨b, 0, none⟩) 2 2] w fun e w' => e = .returned (.int .i64 (if 1 ≤ n ∧ 1 ≤ m then 0 else 2)) ∧ w = w' := by
  by_cases h : 1 ≤ n ∧ 1 ≤ m
  · have h' : decide (1 ≤ n ∧ 1 ≤ m) = true := by simpa using h
    have H := Lib.hid h
    clear h
    go_enter Try.func23, Try.ntmps23
    go_wp2_with (go_at_call 36; refine (are2 _ _ _ _ hc hc2).mono ?_; rintro e w' ⟨rfl, rfl⟩; rw [h'])
    go_ret
    exact ⟨rfl, rfl⟩
  · have h' : decide (1 ≤ n ∧ 1 ≤ m) = false := by simpa using h
    have H := Lib.hid h
    clear h
    go_enter Try.func23, Try.ntmps23
    go_wp2_with (go_at_call 36; refine (are2 _ _ _ _ hc hc2).mono ?_; rintro e w' ⟨rfl, rfl⟩; rw [h'])
    go_ret
    exact ⟨rfl, rfl⟩

/-- L with copies for the child of its parent's first i descriptors. -/
def forkTo (L : List Ent) (pid child : Int) : Nat → List Ent
  | 0 => L
  | i + 1 => match ent L pid i with
    | none => forkTo L pid child i
    | some e => ⟨child, i, e.blk, e.kind, e.thing⟩ :: forkTo L pid child i
theorem ent_forkTo {L : List Ent} {pid child : Int} (hno : ∀ k : Nat, ent L child k = none) (i : Nat) (p q : Int) :
    ent (forkTo L pid child i) p q = if p = child then (if 0 ≤ q ∧ q < i then (ent L pid q).map (fun e => ⟨child, q.toNat, e.blk, e.kind, e.thing⟩) else ent L p q) else ent L p q := by
  have hch : ∀ q : Int, 0 ≤ q → ent L child q = none := fun q hq => by
    obtain ⟨k, rfl⟩ := Int.eq_ofNat_of_zero_le hq
    exact hno k
  induction i with
  | zero =>
    by_cases hp : p = child
    · rw [if_pos hp, if_neg (by omega)]; rfl
    · rw [if_neg hp]; rfl
  | succ i ih =>
    simp only [forkTo]
    cases hx : ent L pid i with
    | none =>
      simp only [ih]
      by_cases hp : p = child
      · rw [if_pos hp, if_pos hp]
        by_cases hq : q = i
        · rw [if_neg (by omega), if_pos (by omega), hq, hx, hp]
          exact hno i
        · by_cases h2 : 0 ≤ q ∧ q < (i : Int)
          · rw [if_pos h2, if_pos (by omega)]
          · rw [if_neg h2, if_neg (by omega)]
      · rw [if_neg hp, if_neg hp]
    | some e =>
      simp only [ent_cons, ih]
      by_cases hp : p = child
      · rw [if_pos hp, if_pos hp]
        by_cases hq : q = i
        · rw [if_pos ⟨hp.symm, hq.symm⟩, if_pos (by omega), hq, hx]; simp
        · rw [if_neg (fun h => hq h.2.symm)]
          by_cases h2 : 0 ≤ q ∧ q < (i : Int)
          · rw [if_pos h2, if_pos (by omega)]
          · rw [if_neg h2, if_neg (by omega)]
      · rw [if_neg (fun h => hp h.1.symm), if_neg hp, if_neg hp]
theorem length_forkTo (L : List Ent) (pid child : Int) (i : Nat) : (forkTo L pid child i).length ≤ L.length + i := by
  induction i with
  | zero => simp [forkTo]
  | succ i ih =>
    simp only [forkTo]
    split
    · omega
    · simp only [List.length_cons]; omega
theorem mem_forkTo {L : List Ent} {pid child : Int} {e : Ent} (he : e ∈ L) (i : Nat) : e ∈ forkTo L pid child i := by
  induction i with
  | zero => exact he
  | succ i ih =>
    simp only [forkTo]
    split
    · exact ih
    · exact List.mem_cons_of_mem _ ih

inductive ForkR (L : List Ent) (pid child : Int) : List Ent → Int → Prop
  | arg : pid < 1 ∨ child < 1 → ForkR L pid child L 2
  | some (k : Nat) : 1 ≤ pid → 1 ≤ child → k < 8 → ent L child k ≠ none → ForkR L pid child L 2
  | ok : 1 ≤ pid → 1 ≤ child → (∀ k : Nat, ent L child k = none) → ForkR L pid child (forkTo L pid child 8) 0

theorem shape_alloc (w : World) (c : Array Value) (e : TypeId) (k : Nat) : (w.alloc (.cells c e)).shape? k = if k = w.heap.size then some (e, c.size) else w.shape? k := by
  unfold World.shape? World.alloc
  rw [Array.getElem?_push]
  by_cases h : k = w.heap.size <;> simp [h]
theorem new1 {w w' : World} {x : Value} {t : TypeId} {S : Nat → Prop} (hs : Same S (w.alloc (.cells #[x] t)) w') (hS : ¬ S w.heap.size) :
    w'.cell? ⟨w.heap.size, 0, none⟩ = some x ∧ w'.frozen? ⟨w.heap.size, 0, none⟩ = false ∧ w'.shape? w.heap.size = some (t, 1) ∧ w.heap.size < w'.heap.size := by
  have h0 : (w.alloc (.cells #[x] t)).cell? ⟨w.heap.size, 0, none⟩ = some x := by simp
  refine ⟨hs.cell h0 hS, hs.unfrozen h0 (by simp) hS, ?_, ?_⟩
  · rw [hs.shp _ (by simp)]
    unfold World.shape?
    rw [World.alloc_heap_new]
    rfl
  · have := hs.size; simp at this; omega
theorem not_own {w : World} {m b : Nat} {t n : Nat} (hm : b ≠ m) (hs : w.shape? b = some (t, n)) (ht : t ≠ 59 ∧ t ≠ 80 ∧ t ≠ 65) : ¬ Own w m b := by
  rintro ⟨_, h | ⟨t', n', h, h'⟩⟩
  · exact hm h
  · rw [hs] at h
    simp only [Option.some.injEq, Prod.mk.injEq] at h
    obtain ⟨rfl, _⟩ := h
    rcases h' with h' | h' | h' <;> simp [h'] at ht
theorem not_own_obj {w : World} {m b : Nat} {o : Obj} (hm : b ≠ m) (hs : w.heap[b]? = some o) (ho : o.isCells = false) : ¬ Own w m b := by
  rintro ⟨_, h | ⟨t', n', h, h'⟩⟩
  · exact hm h
  · rw [shape_none hs ho] at h; cases h

set_option maxHeartbeats 1600000 in
theorem fork_any {w : World} {f m : Nat} {L : List Ent} {al : List (Int × Value)} (hrep : Rep w f m L al) (pid child : Int) (hcl : L.length < 1000000) :
    Calls Try.prog 16 #[.pointer (some ⟨f, 0, none⟩), .int .i64 pid, .int .i64 child] w fun e w' =>
      ∃ L' er, e = .returned (.int .i64 er) ∧ ForkR L pid child L' er ∧ Step w f m L' w' := by
  have hmn := hrep.lt.2
  have hfn := hrep.lt.1
  have hc2 := check2 ((((w.alloc (.cells #[.pointer (some ⟨f, 0, none⟩)] 25)).alloc (.cells #[.int .i64 child] 3)).alloc (.cells #[.int .i64 0] 27)).alloc (.cells #[.int .i64 pid, .int .i64 child] 3)) (w.heap.size + 1 + 1 + 1) ⟨f, 0, none⟩ pid child (by simp [go_sem]) (by simp [go_sem])
  refine (callsIn_wide (n := 0)).1 ?_
  by_cases hpc : 1 ≤ pid ∧ 1 ≤ child
  · have HP := Lib.hid hpc
    rw [if_pos hpc] at hc2
    have HC := Lib.hid hc2
    clear hpc hc2
    refine callsIn_of_wp_marks Try.func16 rfl trivial ?_ rfl
    simp only [Try.ntmps16, List.size_toArray, List.length_cons, List.length_nil, Nat.reduceAdd, Nat.reduceSub, Array.replicate_succ, Array.replicate_zero, List.push_toArray, List.append_toArray, List.nil_append, List.cons_append]
    gi_wp2_with fail
    refine CallsIn.mono (callsIn_wide.2 HC.out) ?_
    rintro e W0 ⟨rfl, hW0⟩
    have q0 : W0.cell? ⟨w.heap.size, 0, none⟩ = some (.pointer (some ⟨f, 0, none⟩)) := by rw [← hW0]; simp [go_sem]
    have q1 : W0.cell? ⟨w.heap.size + 1, 0, none⟩ = some (.int .i64 child) := by rw [← hW0]; simp [go_sem]
    have q2 : W0.cell? ⟨w.heap.size + 1 + 1, 0, none⟩ = some (.int .i64 0) := by rw [← hW0]; simp [go_sem]
    have q3 : W0.frozen? ⟨w.heap.size + 1 + 1, 0, none⟩ = false := by rw [← hW0]; simp [go_sem]
    have q4 : W0.shape? w.heap.size = some (25, 1) := by rw [← hW0]; simp [shape_alloc, Nat.add_assoc]
    have q5 : W0.shape? (w.heap.size + 1) = some (3, 1) := by rw [← hW0]; simp [shape_alloc, Nat.add_assoc]
    have q6 : W0.shape? (w.heap.size + 1 + 1) = some (27, 1) := by rw [← hW0]; simp [shape_alloc, Nat.add_assoc]
    have hz0 : w.heap.size + 1 + 1 + 1 < W0.heap.size := by rw [← hW0]; simp
    have hs0 : Same (fun _ => False) w W0 := by rw [← hW0]; exact (((same_alloc _).alloc _).alloc _).alloc _
    have hR0 := hrep.same0 hs0
    clear hW0
    gi_wp2_with fail
    refine CallsIn.mono (callsIn_wide.2 (row_any hR0 child)) ?_
    rintro e W1 ⟨rc, al1, rfl, hR1, hg1, hs1, hal1⟩
    gi_wp2_with (gi_at_call 27; refine CallsIn.mono (callsIn_wide.2 (each_any _ _)) ?_; rintro e w' ⟨rfl, rfl⟩)
    refine range_wide (gf := 37) (lb := #[.pointer (some ⟨W1.heap.size, 0, none⟩)]) rfl (enters_of Try.func37 (by kernel_rfl) rfl) ?_
    intro rec D lp V1 hD hDL hrule hv1 hl1 hd1 hrcc
    simp only [World.size_alloc] at hD
    have hz1 := hs1.size
    have hsV : Same (· = m) W0 V1 := hs1.trans ((same_alloc _ |>.mono (fun _ _ h => h.elim)).trans (hv1.mono (fun _ _ h => h.elim)))
    have hRV : Rep V1 f m L al1 := hR1.same0 ((same_alloc _).trans hv1)
    have r0 := hsV.cell q0 (by simp; omega)
    have r1 := hsV.cell q1 (by simp; omega)
    have r2 := hsV.cell q2 (by simp; omega)
    have r3 := hsV.unfrozen q2 q3 (by simp; omega)
    have r4 := (hsV.shp w.heap.size (by omega)).trans q4
    have r5 := (hsV.shp (w.heap.size + 1) (by omega)).trans q5
    have r6 := (hsV.shp (w.heap.size + 1 + 1) (by omega)).trans q6
    have rb0 : V1.cell? ⟨W1.heap.size, 0, none⟩ = some (.pointer (some ⟨rc, 0, none⟩)) := hv1.cell (by simp) (by simp)
    have hrow := hRV.rowAt hg1
    have hrcl : rc < W1.heap.size := World.block_lt_of_cell? _ _ (hR1.rowAt hg1 0 (by omega))
    have hlpV : lp < V1.heap.size := (Array.getElem?_eq_some_iff.1 hl1).1
    refine Calls.mono (each1 lp W1.heap.size rc (slot L child) (fun i W => (∀ j, j < i → slot L child j = none) ∧ Same (· = lp) V1 W ∧ W.heap[lp]? = some (rec .ready none))
      (fun W => (∃ k, k < 8 ∧ slot L child k ≠ none) ∧ Same (fun b => b = lp ∨ b = w.heap.size + 1 + 1) V1 W ∧ W.cell? ⟨w.heap.size + 1 + 1, 0, none⟩ = some (.int .i64 2) ∧ W.heap[lp]? = some (rec .done (some .ret)))
      ?_ ?_ ?_ ?_ V1 rb0 ⟨by simp, Same.refl _ _, hl1⟩) ?_
    · rintro i W k ⟨h1, h2, h3⟩
      exact ⟨h1, h2.drewN k, h3⟩
    · rintro i W hi ⟨h1, h2, h3⟩
      exact h2.cell (hrow i hi) (by simp; omega)
    · rintro i W hi ⟨h1, h2, h3⟩ hg
      exact ⟨fun j hj => if e : j = i then by rw [e]; exact hg else h1 j (by omega), h2, h3⟩
    · rintro i x W hi ⟨h1, h2, h3⟩ hg
      refine hrule W _ _ h3 (by rfl) ?_
      gi_wp2
      intro W2 hs2 hz2 hl2
      have t2 := hs2.cell (h2.cell r2 (by simp; omega)) (by simp; omega)
      have t3 := hs2.unfrozen (h2.cell r2 (by simp; omega)) (h2.unfrozen r2 r3 (by simp; omega)) (by simp; omega)
      have HG := Lib.hid hg
      clear hg h1
      gi_wp2
      have hs6 : Same (· = w.heap.size + 1 + 1) W2 (W2.setCell ⟨w.heap.size + 1 + 1, 0, none⟩ (.int .i64 2)) := (Same.refl _ _).setCell _ (.inr rfl)
      refine ⟨hs6.block hl2 (by omega), fun W3 hs4 _ hl4 => .inr ⟨rfl, ⟨i, hi, by rw [HG.out]; simp⟩, ?_, hs4.cell (World.cell?_setCell_same _ _ _ t2) (by simp; omega), hl4⟩⟩
      exact (((h2.mono (fun _ _ h => .inl h)).trans (hs2.mono (fun _ _ h => .inl h))).trans (hs6.mono (fun _ _ h => .inr h))).trans (hs4.mono (fun _ _ h => .inl h))
    · rintro e W ⟨⟨v, rfl⟩, ⟨h1, h2, h3⟩ | ⟨⟨k, hk, hk2⟩, h2, h3, h4⟩⟩
      · refine ⟨⟨_, rfl⟩, .inl ⟨h3, fun W2 hs2 _ => ?_⟩⟩
        have hs12 := h2.trans hs2
        have hno : ∀ k : Nat, ent L child k = none := fun k => by
          rcases Nat.lt_or_ge k 8 with hk | hk
          · exact slot_none.1 (h1 k hk)
          · exact ent_rng hrep (.inr (by omega))
        have hlpo : ∀ b, b < V1.heap.size → b = lp → ¬ Own V1 m b := by
          rintro b _ rfl
          exact not_own_obj (by omega) hl1 (hrcc _ _)
        have hR2 := hRV.same hs12 hlpo
        have s0 := hs12.cell r0 (by simp; omega)
        have s1 := hs12.cell r1 (by simp; omega)
        have s2 := hs12.cell r2 (by simp; omega)
        have s3 := hs12.unfrozen r2 r3 (by simp; omega)
        have s4 := (hs12.shp w.heap.size (by omega)).trans r4
        have s5 := (hs12.shp (w.heap.size + 1) (by omega)).trans r5
        have s6 := (hs12.shp (w.heap.size + 1 + 1) (by omega)).trans r6
        have sD := hs12.block hd1 (by omega)
        have hsW2 : Same (Own w m) w W2 := (own_m ((hs0.mono (fun _ _ h => h.elim)).trans hsV)).trans' hs12 (fun b hb hb' => by have := hs0.size; omega)
        have hz2 := hs12.size
        have HN := Lib.hid hno
        clear h1 h2 h3 hs2 hno
        gi_wp2_with fail
        refine CallsIn.mono (callsIn_wide.2 (row_any hR2 pid)) ?_
        rintro e W3 ⟨rp, al2, rfl, hR3, hg3, hs3, hal3⟩
        gi_wp2_with (gi_at_call 27; refine CallsIn.mono (callsIn_wide.2 (each_any _ _)) ?_; rintro e w' ⟨rfl, rfl⟩)
        refine range_wide (gf := 37) (lb := #[.pointer (some ⟨W3.heap.size, 0, none⟩)]) rfl (enters_of Try.func37 (by kernel_rfl) rfl) ?_
        intro rec2 D2 lp2 V3 hD2 hDL2 hrule2 hv3 hl3 hd3 hrcc2
        simp only [World.size_alloc] at hD2
        have hz3 := hs3.size
        have hsV3 : Same (· = m) W2 V3 := hs3.trans ((same_alloc _ |>.mono (fun _ _ h => h.elim)).trans (hv3.mono (fun _ _ h => h.elim)))
        have hRV3 : Rep V3 f m L al2 := hR3.same0 ((same_alloc _).trans hv3)
        have p0 := hsV3.cell s0 (by simp; omega)
        have p1 := hsV3.cell s1 (by simp; omega)
        have p2 := hsV3.cell s2 (by simp; omega)
        have p3 := hsV3.unfrozen s2 s3 (by simp; omega)
        have p4 := (hsV3.shp w.heap.size (by omega)).trans s4
        have p5 := (hsV3.shp (w.heap.size + 1) (by omega)).trans s5
        have p6 := (hsV3.shp (w.heap.size + 1 + 1) (by omega)).trans s6
        have pD := hsV3.block sD (by omega)
        have hb3 : V3.cell? ⟨W3.heap.size, 0, none⟩ = some (.pointer (some ⟨rp, 0, none⟩)) := hv3.cell (by simp) (by simp)
        have hg2 := hal3 child _ hg1
        have hlpV3 : lp2 < V3.heap.size := (Array.getElem?_eq_some_iff.1 hl3).1
        have o0 : ¬ Own V3 m w.heap.size := not_own (by omega) p4 (by decide)
        have o1 : ¬ Own V3 m (w.heap.size + 1) := not_own (by omega) p5 (by decide)
        have o2 : ¬ Own V3 m (w.heap.size + 1 + 1) := not_own (by omega) p6 (by decide)
        have oD : ¬ Own V3 m D := not_own_obj (by omega) pD rfl
        have oD2 : ¬ Own V3 m D2 := not_own_obj (by omega) hd3 rfl
        have hsfin : Same (Own w m) w V3 := own_trans hsW2 (own_m hsV3)
        refine Calls.mono (each1 lp2 W3.heap.size rp (slot L pid) (fun i W => Rep W f m (forkTo L pid child i) al2 ∧ Same (fun b => Own V3 m b ∨ b = lp2) V3 W ∧ W.heap[lp2]? = some (rec2 .ready none))
          (fun _ => False) ?_ ?_ ?_ ?_ V3 hb3 ⟨hRV3, Same.refl _ _, hl3⟩) ?_
        · rintro i W k ⟨h1, h2, h3⟩
          exact ⟨h1.same0 ((Same.refl _ _).drewN k), h2.drewN k, h3⟩
        · rintro i W hi ⟨h1, h2, h3⟩
          have := h1.rowAt hg3 i hi
          rw [this]
          unfold slot
          rw [ent_forkTo HN.out]
          by_cases hp : pid = child
          · rw [if_pos hp, if_neg (by omega)]
          · rw [if_neg hp]
        · rintro i W hi ⟨h1, h2, h3⟩ hg
          refine ⟨?_, h2, h3⟩
          simp only [forkTo, slot_none.1 hg]
          exact h1
        · rintro i x W hi ⟨h1, h2, h3⟩ hg
          refine hrule2 W _ _ h3 (by rfl) ?_
          gi_wp2
          intro W5 hs5 hz5 hl5
          obtain ⟨e, he, rfl⟩ : ∃ e, ent L pid i = some e ∧ e.blk = x := by
            unfold slot at hg
            cases hx : ent L pid i with
            | none => rw [hx] at hg; cases hg
            | some e => rw [hx] at hg; exact ⟨e, rfl, by simpa using hg⟩
          have hm5 : ∀ b, b < W.heap.size → b = lp2 → ¬ Own W m b := by
            rintro b _ rfl
            exact not_own_obj (by omega) h3 (hrcc2 _ _)
          have hR5 := h1.same hs5 hm5
          have hsW5 := h2.trans (hs5.mono (fun _ _ h => .inr h))
          have v0 := hsW5.cell p0 (fun h => h.elim o0 (fun h => by simp at h; omega))
          have v1 := hsW5.cell p1 (fun h => h.elim o1 (fun h => by simp at h; omega))
          have v4 : w.heap.size < W5.heap.size := World.block_lt_of_cell? _ _ v0
          have v5 : w.heap.size + 1 < W5.heap.size := World.block_lt_of_cell? _ _ v1
          have hmem := mem_forkTo (pid := pid) (child := child) (ent_some he).1 i
          obtain ⟨g1, g2, g3, g4, g5⟩ := hR5.file e hmem
          have x1 := hR5.f0
          have x2 := hR5.lt.1
          have hmp := hR5.hm
          obtain ⟨hcr, hcz⟩ := hR5.rowFree hg2 i hi
          have hfree : ent (forkTo L pid child i) child i = none := by
            rw [ent_forkTo HN.out, if_pos rfl, if_neg (by omega)]
            exact HN.out i
          have hsl : slot (forkTo L pid child i) child i = none := by unfold slot; rw [hfree]; rfl
          rw [hsl] at hcr
          simp only [pv, Option.map_none] at hcr
          have hlk := lk57n (MapIs_drew (MapIs_setCell hmp ⟨e.blk, 2, none⟩ (.int .i64 (↑(refs (forkTo L pid child i) e.blk) + 1)))) child
          rw [hg2] at hlk
          simp only [Option.getD_some] at hlk
          have hiI : (i : Int) < 8 := by omega
          have hrl := refs_le (forkTo L pid child i) e.blk
          have hll := length_forkTo L pid child i
          obtain ⟨rc', hrc', _, _, hrs⟩ := hR5.row child _ (aget_mem hg2)
          obtain rfl : rc = rc' := by simpa using hrc'
          have n1 : e.blk ≠ rc := ne_sh g5 hrs (by decide)
          have n2 : e.blk ≠ f := ne_sh g5 hR5.fs (by decide)
          have n1' := n1.symm
          have n2' := n2.symm
          have n3 : e.blk ≠ w.heap.size := ne_sh g5 ((hsW5.shp _ (by omega)).trans p4) (by decide)
          have n4 : e.blk ≠ w.heap.size + 1 := ne_sh g5 ((hsW5.shp _ (by omega)).trans p5) (by decide)
          have hrcl2 : rc < W5.heap.size := World.block_lt_of_cell? _ _ hcr
          have HR5 := Lib.hid hR5
          have HE := Lib.hid he
          have HF := Lib.hid hfree
          have HG2 := Lib.hid hg2
          clear hR5 he hfree hg2 hsl hg h1 hm5 g1 g2 g5 hrs hrc'
          gi_wp2
          refine wpIn_region_still_tail (wide_round lp2) 10 (by kernel_rfl) (by kernel_rfl) (by kernel_rfl) ?_
          simp only [List.take_succ_cons, List.take_zero, List.drop_succ_cons, List.drop_zero]
          repeat still_step
          try refine wpStill_nil ?_
          gi_wp2
          have hR5 := HR5.out
          have hU := hR5.dup HG2.out hi HF.out HP.out.2 hmem (((Upd.refl hR5.hm).setCell ⟨e.blk, 2, none⟩ (.int .i64 (↑(refs (forkTo L pid child i) e.blk) + 1))).setCell ⟨rc, i, none⟩ (.pointer (some ⟨e.blk, 0, none⟩)))
            (fun a u => by
              simp only [eq_comm (a := a)]
              by_cases h1 : (⟨rc, i, none⟩ : Addr) = a
              · subst h1; simp [n1]
              · simp [h1])
          have hT : Same (fun b => b = e.blk ∨ b = rc) W5 (((W5.setCell ⟨e.blk, 2, none⟩ (.int .i64 (↑(refs (forkTo L pid child i) e.blk) + 1))).setCell ⟨rc, i, none⟩ (.pointer (some ⟨e.blk, 0, none⟩))).drew) :=
            (((Same.refl _ _).setCell _ (.inr (.inl rfl))).setCell _ (.inr (.inr rfl))).drew
          have n5 : lp2 ≠ e.blk := by
            intro h
            exact not_own_obj (o := rec2 .busy none) (by omega) hl5 (hrcc2 _ _) (h ▸ hR5.ownFile hmem)
          have n6 : lp2 ≠ rc := by
            intro h
            exact not_own_obj (o := rec2 .busy none) (by omega) hl5 (hrcc2 _ _) (h ▸ hR5.ownRow HG2.out)
          refine ⟨hT.block hl5 (by omega), fun W7 hs7 _ hl7 => ⟨rfl, ?_, ?_, hl7⟩⟩
          · have : forkTo L pid child (i + 1) = ⟨child, i, e.blk, e.kind, e.thing⟩ :: forkTo L pid child i := by simp only [forkTo, HE.out]
            rw [this]
            refine (hU.same0 (Same.refl _ _).drew).same hs7 ?_
            rintro b _ rfl
            exact not_own_obj (by omega) (hT.block hl5 (by omega)) (hrcc2 _ _)
          · refine (hsW5.trans' hT ?_).trans (hs7.mono (fun _ _ h => .inr h))
            intro b hb hbV
            refine .inl ?_
            have : Own W5 m b := by
              rcases hb with rfl | rfl
              · exact hR5.ownFile hmem
              · exact hR5.ownRow HG2.out
            rcases this with ⟨hl, rfl | ⟨t, n, h, h'⟩⟩
            · exact ⟨hl, .inl rfl⟩
            · exact ⟨hl, .inr ⟨t, n, (hsW5.shp b hbV).symm.trans h, h'⟩⟩
        · rintro e W ⟨⟨v, rfl⟩, ⟨h1, h2, h3⟩ | h⟩
          · refine ⟨⟨_, rfl⟩, .inl ⟨h3, fun W2' hs2' _ => ?_⟩⟩
            have hm5 : ∀ b, b < W.heap.size → b = lp2 → ¬ Own W m b := by
              rintro b _ rfl
              exact not_own_obj (by omega) h3 (hrcc2 _ _)
            have hR9 := h1.same hs2' hm5
            have hs9 := h2.trans (hs2'.mono (fun _ _ h => .inr h))
            have y2 := hs9.cell p2 (fun h => h.elim o2 (fun h => by simp at h; omega))
            have y3 := hs9.unfrozen p2 p3 (fun h => h.elim o2 (fun h => by simp at h; omega))
            have yD := hs9.block pD (fun h => h.elim oD (fun h => by omega))
            have yD2 := hs9.block hd3 (fun h => h.elim oD2 (fun h => by omega))
            have y6 := (hs9.shp (w.heap.size + 1 + 1) (by omega)).trans p6
            have hs8 : Same (Own w m) w W2' := hsfin.trans' hs9 (by
              rintro b (hb | rfl) hbw
              · rcases hb with ⟨hl, rfl | ⟨t, n, h, h'⟩⟩
                · exact ⟨hl, .inl rfl⟩
                · exact ⟨hl, .inr ⟨t, n, (hsfin.shp b hbw).symm.trans h, h'⟩⟩
              · exfalso; have := hs0.size; omega)
            have HR9 := Lib.hid hR9
            clear hR9 h1 h2 h3
            gi_wp2
            have hs6 : Same (· = w.heap.size + 1 + 1) W2' (W2'.setCell ⟨w.heap.size + 1 + 1, 0, none⟩ (.int .i64 0)) := (Same.refl _ _).setCell _ (.inr rfl)
            refine leaves_cons (hs6.block yD2 (by omega)) fun X1 hx1 _ => leaves_cons (hx1.block (hs6.block yD (by omega)) (by omega)) fun X2 hx2 _ => ?_
            have z2 := hx2.cell (hx1.cell (World.cell?_setCell_same _ _ (.int .i64 0) y2) (by simp; omega)) (by simp; omega)
            refine leaves_nil (v := .int .i64 0) (by simp [results, Try.results16, go_sem, z2]) ⟨_, 0, rfl, .ok HP.out.1 HP.out.2 HN.out, al2, ?_, ?_⟩
            · have hsx : Same (fun b => b = w.heap.size + 1 + 1 ∨ b = D ∨ b = D2) W2' X2 :=
                ((hs6.mono (fun _ _ h => .inl h)).trans (hx1.mono (fun _ _ h => .inr (.inr h)))).trans (hx2.mono (fun _ _ h => .inr (.inl h)))
              refine HR9.out.same hsx ?_
              rintro b _ (rfl | rfl | rfl)
              · exact not_own (by omega) y6 (by decide)
              · exact not_own_obj (by omega) yD rfl
              · exact not_own_obj (by omega) yD2 rfl
            · refine ((hs8.trans' hs6 ?_).trans' hx1 ?_).trans' hx2 ?_
              all_goals (intro b hb hbw; exfalso; have := hs0.size; omega)
          · exact h.elim
      · refine ⟨⟨_, rfl⟩, .inr ⟨_, h4, fun W2 hs2 _ => ?_⟩⟩
        gi_wp2
        have u3 := hs2.cell h3 (by simp; omega)
        refine leaves_mark (v := .int .i64 2) (hs2.block (h2.block hd1 (by omega)) (by omega)) fun W3 hs4 _ => ⟨by simp [results, Try.results16, go_sem, hs4.cell u3 (by simp; omega)], L, 2, rfl, .some k HP.out.1 HP.out.2 hk (fun e => hk2 (slot_none.2 e)), al1, ?_⟩
        have hs9 : Same (fun b => b = lp ∨ b = w.heap.size + 1 + 1 ∨ b = D) V1 W3 :=
          ((h2.mono (fun b _ h => h.elim .inl (fun h => .inr (.inl h)))).trans (hs2.mono (fun _ _ h => .inl h))).trans (hs4.mono (fun _ _ h => .inr (.inr h)))
        refine ⟨hRV.same hs9 ?_, (own_m ((hs0.mono (fun _ _ h => h.elim)).trans hsV)).trans' hs9 (fun b hb hb' => by have := hs0.size; omega)⟩
        rintro b hb (rfl | rfl | rfl)
        · exact not_own_obj (by omega) hl1 (hrcc _ _)
        · exact not_own (by omega) r6 (by decide)
        · exact not_own_obj (by omega) hd1 rfl
  · have HP := Lib.hid hpc
    rw [if_neg hpc] at hc2
    have HC := Lib.hid hc2
    clear hpc hc2
    refine callsIn_of_wp_marks Try.func16 rfl trivial ?_ rfl
    simp only [Try.ntmps16, List.size_toArray, List.length_cons, List.length_nil, Nat.reduceAdd, Nat.reduceSub, Array.replicate_succ, Array.replicate_zero, List.push_toArray, List.append_toArray, List.nil_append, List.cons_append]
    gi_wp2_with (gi_at_call 23; refine CallsIn.mono (callsIn_wide.2 HC.out) ?_; rintro e w' ⟨rfl, rfl⟩)
    refine leaves_nil (v := .int .i64 2) (by simp [results, Try.results16, go_sem]) ⟨L, 2, rfl, .arg (by have := HP.out; omega), al, ?_⟩
    have hs : Same (fun _ => False) w ((((w.alloc (.cells #[.pointer (some ⟨f, 0, none⟩)] 25)).alloc (.cells #[.int .i64 child] 3)).alloc (.cells #[.int .i64 2] 27)).alloc (.cells #[.int .i64 pid, .int .i64 child] 3)) := (((same_alloc _).alloc _).alloc _).alloc _
    exact ⟨hrep.same0 hs, own_of hs⟩
end Go.Proofs.Ytcllofffbmbmlaa
