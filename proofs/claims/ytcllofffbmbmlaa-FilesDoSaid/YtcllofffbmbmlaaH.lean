import Derived.Test.YtcllofffbmbmlaaG
import Derived.Test.YtcllofffbmbmlaaAp
import Derived.Maps.OwnIn
namespace Go.Proofs.Ytcllofffbmbmlaa
open Go.RowKit Go.Shelf
attribute [local go_sem] Oper.semAt_some MapIs_alloc MapIs_setCell MapIs_drewN MapIs_drew pv_none pv_some

def dropTo (L : List Ent) (pid : Int) : Nat → List Ent
  | 0 => L
  | i + 1 => match ent L pid i with
    | none => dropTo L pid i
    | some _ => del (dropTo L pid i) pid i
def outTo (L : List Ent) (pid : Int) : Nat → List (Int × Int)
  | 0 => []
  | i + 1 => match ent L pid i with
    | none => outTo L pid i
    | some e => if refs (del (dropTo L pid i) pid i) e.blk = 0 then outTo L pid i ++ [(e.kind, e.thing)] else outTo L pid i
def flat (l : List (Int × Int)) : List Value := l.flatMap fun p => [.int .i64 p.1, .int .i64 p.2]

theorem ent_dropTo (L : List Ent) (pid : Int) (i : Nat) (p q : Int) : ent (dropTo L pid i) p q = if p = pid ∧ 0 ≤ q ∧ q < i then none else ent L p q := by
  induction i with
  | zero => rw [if_neg (by omega)]; rfl
  | succ i ih =>
    simp only [dropTo]
    cases hx : ent L pid i with
    | none =>
      simp only [ih]
      by_cases h : p = pid ∧ 0 ≤ q ∧ q < (i : Int)
      · rw [if_pos h, if_pos (by omega)]
      · rw [if_neg h]
        by_cases h2 : p = pid ∧ q = i
        · rw [if_pos (by omega), h2.1, h2.2, hx]
        · rw [if_neg (by omega)]
    | some e =>
      simp only [ent_del, ih]
      by_cases h2 : p = pid ∧ q = i
      · rw [if_pos h2, if_pos (by omega)]
      · rw [if_neg h2]
        by_cases h : p = pid ∧ 0 ≤ q ∧ q < (i : Int)
        · rw [if_pos h, if_pos (by omega)]
        · rw [if_neg h, if_neg (by omega)]
theorem length_outTo (L : List Ent) (pid : Int) (i : Nat) : (outTo L pid i).length ≤ i := by
  induction i with
  | zero => simp [outTo]
  | succ i ih =>
    simp only [outTo]
    split
    · omega
    · split
      · simp; omega
      · omega
theorem keyd_dropTo {L : List Ent} (h : Keyd L) (pid : Int) (i : Nat) : Keyd (dropTo L pid i) := by
  induction i with
  | zero => exact h
  | succ i ih =>
    simp only [dropTo]
    split
    · exact ih
    · exact ih.filter _
theorem length_dropTo (L : List Ent) (pid : Int) (i : Nat) : (dropTo L pid i).length ≤ L.length := by
  induction i with
  | zero => exact Nat.le_refl _
  | succ i ih =>
    simp only [dropTo]
    split
    · exact ih
    · exact Nat.le_trans (List.length_filter_le _ _) ih
theorem cnt_dropTo {L : List Ent} (h : Keyd L) (pid : Int) (i : Nat) : cnt (dropTo L pid i) + (outTo L pid i).length = cnt L := by
  induction i with
  | zero => simp [dropTo, outTo]
  | succ i ih =>
    simp only [dropTo, outTo]
    cases hx : ent L pid i with
    | none => exact ih
    | some e =>
      have he : ent (dropTo L pid i) pid i = some e := by rw [ent_dropTo, if_neg (by omega)]; exact hx
      have hc := cnt_del (keyd_dropTo h pid i) he
      simp only
      split
      · rename_i hz; rw [if_pos hz] at hc; simp only [List.length_append, List.length_cons, List.length_nil]; omega
      · rename_i hz; rw [if_neg hz] at hc; omega
theorem flat_len (l : List (Int × Int)) : (flat l).length = l.length * 2 := by
  induction l with
  | nil => rfl
  | cons p l ih => simp only [flat, List.flatMap_cons, List.length_append, List.length_cons, List.length_nil] at ih ⊢; omega

theorem Rep.delRow {w w1 : World} {f m : Nat} {L : List Ent} {al : List (Int × Value)} (h : Rep w f m L al) {pid : Int} (hn : ∀ e ∈ L, e.pid ≠ pid) (hs : Same (· = m) w w1) (hm1 : MapIs kvi w1 m (adel al pid)) :
    Rep w1 f m L (adel al pid) := by
  have lt : ∀ {a : Addr} {v : Value}, w.cell? a = some v → a.block < w.heap.size := fun hc => World.block_lt_of_cell? _ _ hc
  have sh : ∀ {b t n}, w.shape? b = some (t, n) → b ≠ m := by
    intro b t n hb e
    subst e
    obtain ⟨es, clk, h1, _⟩ := h.hm
    unfold World.shape? at hb; rw [h1] at hb; cases hb
  refine ⟨hs.cell h.f0 (sh h.fs), hs.cell h.f1 (sh h.fs), hs.unfrozen h.f1 h.ff (sh h.fs), (hs.shp f (lt h.f0)).trans h.fs, hm1, (keys_adel_sub al pid).nodup h.nd, ?_, ?_, ?_, ?_, h.rng, h.key, h.lof, fun p rb hp => h.lor p rb (mem_adel hp), h.lob⟩
  · intro p v hpv
    obtain ⟨rb, h1, h2, h3, h4⟩ := h.row p v (mem_adel hpv)
    exact ⟨rb, h1, fun i hi => hs.cell (h2 i hi) (sh h4), fun i hi => hs.unfrozen (h2 i hi) (h3 i hi) (sh h4), (hs.shp rb (lt (h2 0 (by omega)))).trans h4⟩
  · intro p q v hp hq
    exact h.inj p q v (mem_adel hp) (mem_adel hq)
  · intro e he
    have h1 := h.has e he
    have h2 : aget (adel al pid) e.pid ≠ none := by
      rw [aget_adel h.nd, if_neg (hn e he)]
      intro h3
      exact aget_none.1 h3 h1
    exact Classical.byContradiction fun h3 => h2 (aget_none.2 h3)
  · intro e he
    obtain ⟨h1, h2, h3, h4, h5⟩ := h.file e he
    exact ⟨hs.cell h1 (sh h5), hs.cell h2 (sh h5), hs.cell h3 (sh h5), hs.unfrozen h3 h4 (sh h5), (hs.shp _ (lt h1)).trans h5⟩

theorem Try.info23 : (Try.prog.info? 23).map (fun i => (i.zero, i.size, i.bytes)) = some (some (.agg #[.int .i64 0, .int .i64 0]), 2, 16) := by kernel_rfl

def DropPost (w : World) (f m : Nat) (L : List Ent) (L' : List Ent) (out : List (Int × Int)) (e : Ending) (w' : World) : Prop :=
  ∃ v, e = .returned v ∧ w'.ownsRow w.heap.size 23 2 v out.length (flat out) ∧ Step w f m L' w'

set_option maxHeartbeats 1600000 in
theorem drop_bad {w : World} {f m : Nat} {L : List Ent} {al : List (Int × Value)} (hrep : Rep w f m L al) (pid : Int) (hp : pid < 1) :
    Calls Try.prog 22 #[.pointer (some ⟨f, 0, none⟩), .int .i64 pid] w (DropPost w f m L L []) := by
  have h1 : decide (1 ≤ pid) = false := by simpa using hp
  have hc := check1 (((w.alloc (.cells #[.pointer (some ⟨f, 0, none⟩)] 25)).alloc (.cells #[.int .i64 pid] 3)).alloc (.cells #[.int .i64 pid] 3)) (w.heap.size + 1 + 1) ⟨f, 0, none⟩ pid (by simp [go_sem])
  rw [if_neg (by omega)] at hc
  have HC := Lib.hid hc
  clear hc
  refine (callsIn_wide (n := 0)).1 ?_
  refine callsIn_of_wp_marks Try.func22 rfl trivial ?_ rfl
  simp only [Try.ntmps22, List.size_toArray, List.length_cons, List.length_nil, Nat.reduceAdd, Nat.reduceSub, Array.replicate_succ, Array.replicate_zero, List.push_toArray, List.append_toArray, List.nil_append, List.cons_append]
  gi_wp2_with (gi_at_call 23; refine CallsIn.mono (callsIn_wide.2 HC.out) ?_; rintro e w' ⟨rfl, rfl⟩)
  refine leaves_nil (results_tmp rfl _ _ _) ⟨_, rfl, World.ownsRow_nil _ _ _ _, al, hrep.same0 (((same_alloc _).alloc _).alloc _), own_of (((same_alloc _).alloc _).alloc _)⟩

theorem own_same {w w' : World} {m b : Nat} {S : Nat → Prop} (hs : Same S w w') (hb : b < w.heap.size) : Own w' m b ↔ Own w m b := by
  unfold Own; rw [hs.shp b hb]

set_option maxHeartbeats 3200000 in
theorem drop_ok {w : World} {f m : Nat} {L : List Ent} {al : List (Int × Value)} (hrep : Rep w f m L al) (pid : Int) (hp : 1 ≤ pid) (hcl : L.length < 1000000) :
    Calls Try.prog 22 #[.pointer (some ⟨f, 0, none⟩), .int .i64 pid] w (DropPost w f m L (dropTo L pid 8) (outTo L pid 8)) := by
  have hc := check1 (((w.alloc (.cells #[.pointer (some ⟨f, 0, none⟩)] 25)).alloc (.cells #[.int .i64 pid] 3)).alloc (.cells #[.int .i64 pid] 3)) (w.heap.size + 1 + 1) ⟨f, 0, none⟩ pid (by simp [go_sem])
  rw [if_pos hp] at hc
  have HC := Lib.hid hc
  have hmn := hrep.lt.2
  have hfn := hrep.lt.1
  clear hc
  refine (callsIn_wide (n := 0)).1 ?_
  refine callsIn_of_wp_marks Try.func22 rfl trivial ?_ rfl
  simp only [Try.ntmps22, List.size_toArray, List.length_cons, List.length_nil, Nat.reduceAdd, Nat.reduceSub, Array.replicate_succ, Array.replicate_zero, List.push_toArray, List.append_toArray, List.nil_append, List.cons_append]
  gi_wp2_with fail
  refine CallsIn.mono (callsIn_wide.2 HC.out) ?_
  rintro e w' ⟨rfl, rfl⟩
  gi_wp2_with fail
  have hR0 : Rep ((((w.alloc (.cells #[.pointer (some ⟨f, 0, none⟩)] 25)).alloc (.cells #[.int .i64 pid] 3)).alloc (.cells #[.int .i64 pid] 3)).alloc (.cells #[.slice none 0 0] 35)) f m L al := hrep.same0 ((((same_alloc _).alloc _).alloc _).alloc _)
  refine CallsIn.mono (callsIn_wide.2 (row_any hR0 pid)) ?_
  rintro e W1 ⟨rc, al1, rfl, hR1, hg1, hs1, hal1⟩
  gi_wp2_with (gi_at_call 27; refine CallsIn.mono (callsIn_wide.2 (each_any _ _)) ?_; rintro e w' ⟨rfl, rfl⟩)
  refine range_wide (gf := 37) (lb := #[.pointer (some ⟨W1.heap.size, 0, none⟩)]) rfl (enters_of Try.func37 (by kernel_rfl) rfl) ?_
  intro rec D lp V1 hD hDL hrule hv1 hl1 hd1 hrcc
  simp only [World.size_alloc] at hD
  have hz1 := hs1.size
  simp only [World.size_alloc] at hz1
  have hsV : Same (· = m) ((((w.alloc (.cells #[.pointer (some ⟨f, 0, none⟩)] 25)).alloc (.cells #[.int .i64 pid] 3)).alloc (.cells #[.int .i64 pid] 3)).alloc (.cells #[.slice none 0 0] 35)) V1 := hs1.trans ((same_alloc _ |>.mono (fun _ _ h => h.elim)).trans (hv1.mono (fun _ _ h => h.elim)))
  have hsw : Same (Own w m) w V1 := own_m (((((same_alloc _).alloc _).alloc _).alloc _ |>.mono (fun _ _ h => h.elim)).trans hsV)
  have hRV : Rep V1 f m L al1 := hR1.same0 ((same_alloc _).trans hv1)
  have r0 := hsV.cell (a := ⟨w.heap.size, 0, none⟩) (v := .pointer (some ⟨f, 0, none⟩)) (by simp [go_sem]) (by simp; omega)
  have r1 := hsV.cell (a := ⟨w.heap.size + 1, 0, none⟩) (v := .int .i64 pid) (by simp [go_sem]) (by simp; omega)
  have r2 := hsV.cell (a := ⟨w.heap.size + 1 + 1 + 1, 0, none⟩) (v := .slice none 0 0) (by simp [go_sem]) (by simp; omega)
  have r3 := hsV.unfrozen (a := ⟨w.heap.size + 1 + 1 + 1, 0, none⟩) (v := .slice none 0 0) (by simp [go_sem]) (by simp [go_sem]) (by simp; omega)
  have r4 := (hsV.shp w.heap.size (by simp only [World.size_alloc]; omega)).trans (show _ = some (25, 1) by simp [shape_alloc, Nat.add_assoc])
  have r5 := (hsV.shp (w.heap.size + 1) (by simp only [World.size_alloc]; omega)).trans (show _ = some (3, 1) by simp [shape_alloc, Nat.add_assoc])
  have r6 := (hsV.shp (w.heap.size + 1 + 1 + 1) (by simp only [World.size_alloc]; omega)).trans (show _ = some (35, 1) by simp [shape_alloc, Nat.add_assoc])
  have rb0 : V1.cell? ⟨W1.heap.size, 0, none⟩ = some (.pointer (some ⟨rc, 0, none⟩)) := hv1.cell (by simp) (by simp)
  have hlpV : lp < V1.heap.size := (Array.getElem?_eq_some_iff.1 hl1).1
  have o0 : ¬ Own V1 m w.heap.size := not_own (by omega) r4 (by decide)
  have o1 : ¬ Own V1 m (w.heap.size + 1) := not_own (by omega) r5 (by decide)
  have o2 : ¬ Own V1 m (w.heap.size + 1 + 1 + 1) := not_own (by omega) r6 (by decide)
  have oD : ¬ Own V1 m D := not_own_obj (by omega) hd1 rfl
  obtain ⟨ob, hob⟩ : ∃ ob, ob = w.heap.size + 1 + 1 + 1 := ⟨_, rfl⟩
  refine Calls.mono (each1 lp W1.heap.size rc (slot L pid) (fun i W => Rep W f m (dropTo L pid i) al1 ∧ Same (fun b => Own V1 m b ∨ b = lp ∨ b = w.heap.size + 1 + 1 + 1) V1 W ∧
      (∃ v, W.cell? ⟨w.heap.size + 1 + 1 + 1, 0, none⟩ = some v ∧ W.frozen? ⟨w.heap.size + 1 + 1 + 1, 0, none⟩ = false ∧ W.ownsRow V1.heap.size 23 2 v (outTo L pid i).length (flat (outTo L pid i))) ∧ W.heap[lp]? = some (rec .ready none))
    (fun _ => False) ?_ ?_ ?_ ?_ V1 rb0 ⟨hRV, Same.refl _ _, ⟨_, r2, r3, World.ownsRow_nil _ _ _ _⟩, hl1⟩) ?_
  · rintro i W k ⟨h1, h2, h3, h4⟩
    exact ⟨h1.same0 ((Same.refl _ _).drewN k), h2.drewN k, h3, h4⟩
  · rintro i W hi ⟨h1, h2, h3, h4⟩
    rw [h1.rowAt hg1 i hi]
    unfold slot
    rw [ent_dropTo, if_neg (by omega)]
  · rintro i W hi ⟨h1, h2, h3, h4⟩ hg
    refine ⟨?_, h2, ?_, h4⟩
    · simp only [dropTo, slot_none.1 hg]; exact h1
    · simp only [outTo, slot_none.1 hg]; exact h3
  · rintro i x W hi ⟨h1, h2, ⟨v, h3, h5, h6⟩, h4⟩ hg
    refine hrule W _ _ h4 (by rfl) ?_
    gi_wp2
    intro W5 hs5 hz5 hl5
    obtain ⟨e, he, rfl⟩ : ∃ e, ent L pid i = some e ∧ e.blk = x := by
      unfold slot at hg
      cases hx : ent L pid i with
      | none => rw [hx] at hg; cases hg
      | some e => rw [hx] at hg; exact ⟨e, rfl, by simpa using hg⟩
    have he' : ent (dropTo L pid i) pid i = some e := by rw [ent_dropTo, if_neg (by omega)]; exact he
    have hR5 := h1.same hs5 (by
      rintro b _ rfl
      exact not_own_obj (by omega) h4 (hrcc _ _))
    have hsW5 := h2.trans (hs5.mono (fun _ _ h => .inr (.inl h)))
    have v0 := hsW5.cell r0 (fun h => h.elim o0 (fun h => by simp at h; omega))
    have v1 := hsW5.cell r1 (fun h => h.elim o1 (fun h => by simp at h; omega))
    have v2 := hs5.cell h3 (by simp; omega)
    have v3 := hs5.unfrozen h3 h5 (by simp; omega)
    have hrow : W5.ownsRow V1.heap.size 23 2 v (outTo L pid i).length (flat (outTo L pid i)) := ownsRow_same h6 hs5 (fun g hg e => by have := (ownsRow_shape h6 hg).1; omega)
    have hdl := length_dropTo L pid i
    have hol := length_outTo L pid i
    have HR5 := Lib.hid hR5
    have HE := Lib.hid he
    have HE' := Lib.hid he'
    have HRow := Lib.hid hrow
    clear hR5 he he' hg h1 hrow h6 hob
    gi_wp2_with fail
    refine CallsIn.mono (CallsIn.inRound lp (callsIn_wide.2 (close_any HR5.out pid i (by omega)))) ?_
    rintro e1 W6 ⟨L', K, T, g, er, rfl, hcl, hR6, hs6⟩
    rcases hcl with ⟨er, her, hf, _⟩ | ⟨e2, _, he2⟩
    · exfalso
      unfold fnd at hf
      rw [if_neg (by omega), HE'.out] at hf
      simp at hf
    · obtain rfl : e2 = e := by have := HE'.out; rw [he2] at this; exact Option.some.inj this
      have hw : ∀ b, b < V1.heap.size → Own W5 m b → Own V1 m b := fun b hb h => (own_same hsW5 hb).1 h
      have x0 := hs6.cell v0 (fun h => o0 (hw _ (by omega) h))
      have x1 := hs6.cell v1 (fun h => o1 (hw _ (by omega) h))
      have x2 := hs6.cell v2 (fun h => o2 (hw _ (by omega) h))
      have x3 := hs6.unfrozen v2 v3 (fun h => o2 (hw _ (by omega) h))
      have x4 : w.heap.size + 1 + 1 + 1 < W6.heap.size := World.block_lt_of_cell? _ _ x2
      have hrow6 : W6.ownsRow V1.heap.size 23 2 v (outTo L pid i).length (flat (outTo L pid i)) := ownsRow_same HRow.out hs6 (fun g hg h => by
        obtain ⟨_, _, k, hk⟩ := ownsRow_shape HRow.out hg
        refine not_own ?_ hk (by decide) h
        have := (ownsRow_shape HRow.out hg).1
        omega)
      have hlo : lp ≠ m := by omega
      have hl6 := hs6.block hl5 (not_own_obj hlo hl5 (hrcc _ _))
      have hsW6 : Same (fun b => Own V1 m b ∨ b = lp ∨ b = w.heap.size + 1 + 1 + 1) V1 W6 := hsW5.trans' hs6 (fun b hb hbV => .inl (hw b hbV hb))
      have HR6 := Lib.hid hR6
      have HRow6 := Lib.hid hrow6
      obtain ⟨i0, hi0, hz0, hz1', hz2⟩ := info_parts Try.info23
      have h8 : (outTo L pid i).length ≤ 7 := by omega
      clear hR6 hrow6 he2
      by_cases hz : refs (del (dropTo L pid i) pid i) e2.blk = 0
      · have HZ := Lib.hid hz
        simp only [hz, decide_true]
        clear hz
        gi_wp2_with (gi_at_builtin; refine stop_intro ?_)
        unfold Stop
        refine wpListIn_append_same rfl _ _ 35 rfl V1.heap.size 23 i0 (.agg #[.int .i64 0, .int .i64 0]) 2 16 Try.underlying35 hi0 hz0 hz1' hz2 rfl (by decide) _ _ _ rfl ((HRow6.out.alloc _).alloc _) ⟨W6.heap.size + 1, 0, none⟩ 1 1 [.int .i64 e2.kind, .int .i64 e2.thing] (by rfl) (by rfl) ?c1 ?c2 ?c3 ?c4 ?c5 ?_
        case c1 =>
          intro j u hu
          exact cells_new (by simp) hu
        case c2 => simp [Value.oneCell']
        case c3 => unfold maxLen; omega
        case c4 => omega
        case c5 => have := hsW6.size; simp; omega
        intro v' w1 hown' hsame
        obtain ⟨g', cap', rfl⟩ := own_row_succ hown'
        have hsA : Same (fun _ => False) W6 ((W6.alloc (.cells #[.int .i64 e2.kind, .int .i64 e2.thing] 23)).alloc (.cells #[.int .i64 e2.kind, .int .i64 e2.thing] 23)) := (same_alloc _).alloc _
        have hnb : ∀ b, b < V1.heap.size → ¬ v.ownBlock = some b := fun b hb h => by
          have := (ownsRow_shape HRow6.out h).1
          omega
        have y2 := hsame.cell (hsA.cell x2 (by simp)) (hnb _ (by simp only; omega))
        have y3 := hsame.unfrozen (hsA.cell x2 (by simp)) (hsA.unfrozen x2 x3 (by simp)) (hnb _ (by simp only; omega))
        have HO := Lib.hid hown'
        clear hown'
        gi_wp2
        have hsB : Same (fun b => v.ownBlock = some b) W6 w1 := (hsA.mono (fun _ _ h => h.elim)).trans hsame
        have hsC : Same (· = w.heap.size + 1 + 1 + 1) w1 (w1.setCell ⟨w.heap.size + 1 + 1 + 1, 0, none⟩ (.slice (some ⟨g', 0, none⟩) ((outTo L pid i).length + 1) cap')) := (Same.refl _ _).setCell _ (.inr rfl)
        have hl7' := hsC.block (hsB.block hl6 (hnb _ (by omega))) (by omega)
        refine ⟨hl7', fun W7 hs8 _ hl7 => ⟨rfl, ?_, ?_, ?_, hl7⟩⟩
        · simp only [dropTo, HE.out]
          refine ((HR6.out.same hsB ?_).same hsC ?_).same hs8 ?_
          · intro b _ hb
            obtain ⟨_, _, k, hk⟩ := ownsRow_shape HRow6.out hb
            exact not_own (by have := (ownsRow_shape HRow6.out hb).1; omega) hk (by decide)
          · rintro b _ rfl
            have h6 := (hsW6.shp (w.heap.size + 1 + 1 + 1) (by omega)).trans r6
            exact not_own (by omega) ((hsB.shp _ x4).trans h6) (by decide)
          · rintro b _ rfl
            exact not_own_obj (by omega) hl7' (hrcc _ _)
        · refine ((hsW6.trans' hsB ?_).trans (hsC.mono (fun _ _ h => .inr (.inr h)))).trans (hs8.mono (fun _ _ h => .inr (.inl h)))
          intro b hb hbV
          exact (hnb b hbV hb).elim
        · simp only [outTo, HE.out, if_pos HZ.out]
          have hrw : (outTo L pid i ++ [(e2.kind, e2.thing)]).length = (outTo L pid i).length + 1 := by simp
          have hfl : flat (outTo L pid i ++ [(e2.kind, e2.thing)]) = flat (outTo L pid i) ++ [.int .i64 e2.kind, .int .i64 e2.thing] := by simp [flat]
          rw [hrw, hfl]
          refine ⟨_, hs8.cell (World.cell?_setCell_same _ _ _ y2) (by simp; omega), hs8.unfrozen (World.cell?_setCell_same _ _ _ y2) (by simpa using y3) (by simp; omega), ?_⟩
          have hg' : V1.heap.size ≤ g' := (ownsRow_shape HO.out rfl).1
          exact ownsRow_same (ownsRow_same HO.out hsC (fun g hg e => by simp only [Value.ownBlock, Option.some.injEq] at hg; omega)) hs8 (fun g hg e => by simp only [Value.ownBlock, Option.some.injEq] at hg; omega)
      · have HZ := Lib.hid hz
        simp only [hz, decide_false]
        clear hz
        gi_wp2
        have hs7 : Same (fun _ => False) W6 (W6.alloc (.cells #[.int .i64 e2.kind, .int .i64 e2.thing] 23)) := same_alloc _
        refine ⟨hs7.block hl6 (by simp), fun W7 hs8 _ hl7 => ⟨rfl, ?_, ?_, ?_, hl7⟩⟩
        · simp only [dropTo, HE.out]
          refine (HR6.out.same0 hs7).same hs8 ?_
          rintro b _ rfl
          exact not_own_obj (by omega) (hs7.block hl6 (by simp)) (hrcc _ _)
        · exact (hsW6.trans (hs7.mono (fun _ _ h => h.elim))).trans (hs8.mono (fun _ _ h => .inr (.inl h)))
        · simp only [outTo, HE.out, if_neg HZ.out]
          have y2 := hs7.cell x2 (by simp)
          exact ⟨v, hs8.cell y2 (by simp; omega), hs8.unfrozen y2 (hs7.unfrozen x2 x3 (by simp)) (by simp; omega), ownsRow_same (ownsRow_same HRow6.out hs7 (by simp)) hs8 (fun g hg e => by have := (ownsRow_shape HRow6.out hg).1; omega)⟩
  · rintro e W ⟨⟨v0, rfl⟩, ⟨h1, h2, ⟨v, h3, h5, h6⟩, h4⟩ | h⟩
    · refine ⟨⟨_, rfl⟩, .inl ⟨h4, fun W2 hs2 _ => ?_⟩⟩
      have hR2 := h1.same hs2 (by
        rintro b _ rfl
        exact not_own_obj (by omega) h4 (hrcc _ _))
      have hsW2 := h2.trans (hs2.mono (fun _ _ h => .inr (.inl h)))
      have v0 := hsW2.cell r0 (fun h => h.elim o0 (fun h => by simp at h; omega))
      have v1 := hsW2.cell r1 (fun h => h.elim o1 (fun h => by simp at h; omega))
      have v2 := hs2.cell h3 (by simp; omega)
      have hrow : W2.ownsRow V1.heap.size 23 2 v (outTo L pid 8).length (flat (outTo L pid 8)) := ownsRow_same h6 hs2 (fun g hg e => by have := (ownsRow_shape h6 hg).1; omega)
      have hD2 := hsW2.block hd1 (fun h => h.elim oD (fun h => by omega))
      have f0 := hR2.f0
      have f1 := hR2.lt.1
      have hmp := hR2.hm
      have HR2 := Lib.hid hR2
      have HRow := Lib.hid hrow
      clear hR2 h1 hrow h6 hob
      have hl2 : w.heap.size < W2.heap.size := World.block_lt_of_cell? _ _ v0
      gi_wp2
      refine wpIn_region_still_tail wide_self 5 (by kernel_rfl) (by kernel_rfl) (by kernel_rfl) ?_
      simp only [List.take_succ_cons, List.take_zero, List.drop_succ_cons, List.drop_zero]
      repeat still_step
      refine wpStill_nil ?_
      refine wpListIn_delete_is (by rfl) _ _ (by rfl) Try.underlying57 (key_int Try.underlying3) (MapIs_drew hmp) (by rfl) pid (by rfl) ?_
      intro w3 hs3 hz3 hm3
      have u2 := hs3.cell (show W2.drew.cell? _ = _ from v2) (by simp; omega)
      have uD := hs3.block (show W2.drew.heap[D]? = _ from hD2) (by omega)
      have hdr : Same (fun _ => False) W2 W2.drew := (Same.refl _ _).drew
      have hR3 := (HR2.out.same0 hdr).delRow (pid := pid) (fun e he hep => by
        have hk := HR2.out.rng e he
        have h3 : ent (dropTo L pid 8) pid e.fd = none := by rw [ent_dropTo, if_pos (by omega)]
        unfold ent at h3
        rw [List.find?_eq_none] at h3
        have := h3 e he
        simp [hep] at this) hs3 hm3
      have hrow3 : w3.ownsRow V1.heap.size 23 2 v (outTo L pid 8).length (flat (outTo L pid 8)) := ownsRow_same (ownsRow_same HRow.out hdr (by simp)) hs3 (fun g hg e => by
        have := (ownsRow_shape HRow.out hg).1
        omega)
      have HR3 := Lib.hid hR3
      have HRow3 := Lib.hid hrow3
      clear hR3 hrow3 hz3
      gi_wp2
      have hvz := hsw.size
      have hsw2 : Same (Own w m) w W2 := hsw.trans' hsW2 (by
        rintro b (hb | rfl | rfl) hbw
        · exact (own_same hsw hbw).1 hb
        · omega
        · omega)
      have hsw3 : Same (Own w m) w w3 := (hsw2.trans (hdr.mono (fun _ _ h => h.elim))).trans (hs3.mono (fun b _ h => by subst h; exact ⟨Nat.le_refl _, .inl rfl⟩))
      refine leaves_mark uD fun W3 hs4 _ => ⟨results_tmp rfl _ _ _, ?_⟩
      refine ⟨v, rfl, ?_, _, HR3.out.same hs4 ?_, ?_⟩
      · exact ownsRow_base (ownsRow_same HRow3.out hs4 (fun g hg e => by have := (ownsRow_shape HRow3.out hg).1; omega)) hvz
      · rintro b _ rfl
        exact not_own_obj (by omega) uD rfl
      · exact hsw3.trans' hs4 (fun b hb hbw => by omega)
    · exact h.elim
end Go.Proofs.Ytcllofffbmbmlaa
