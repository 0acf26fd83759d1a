import Derived.Test.YtcllofffbmbmlaaD
namespace Go.Proofs.Ytcllofffbmbmlaa
open Go.RowKit Go.Shelf
attribute [local go_sem] Oper.semAt_some MapIs_alloc MapIs_setCell MapIs_drewN MapIs_drew

def del (L : List Ent) (pid fd : Int) : List Ent := L.filter (fun x => ¬ (x.pid = pid ∧ (x.fd : Int) = fd))
def Keyd (L : List Ent) : Prop := L.Pairwise (fun a b => ¬ (a.pid = b.pid ∧ a.fd = b.fd))

theorem refs_perm {L L' : List Ent} (h : L.Perm L') (b : Nat) : refs L b = refs L' b := (h.filter _).length_eq
theorem cnt_perm {L L' : List Ent} (h : L.Perm L') : cnt L = cnt L' := by
  induction h with
  | nil => rfl
  | cons x h ih => simp only [cnt, ih, refs_perm h]
  | swap x y l =>
    simp only [cnt, refs_cons]
    by_cases e : x.blk = y.blk
    · simp [e]
    · have e' : ¬ y.blk = x.blk := fun h => e h.symm
      simp only [e, e', if_false, Nat.add_zero]; omega
  | trans _ _ ih1 ih2 => exact ih1.trans ih2

theorem del_perm {L : List Ent} (hk : Keyd L) {p q : Int} {e : Ent} (he : ent L p q = some e) : L.Perm (e :: del L p q) := by
  induction L with
  | nil => simp [ent] at he
  | cons x L ih =>
    have hk' := List.pairwise_cons.1 hk
    rw [ent_cons] at he
    unfold del at *
    by_cases hx : x.pid = p ∧ (x.fd : Int) = q
    · rw [if_pos hx] at he
      cases he
      have : L.filter (fun x => decide ¬ (x.pid = p ∧ (x.fd : Int) = q)) = L := by
        rw [List.filter_eq_self]
        intro y hy
        have := hk'.1 y hy
        simp only [decide_eq_true_eq]
        rintro ⟨h1, h2⟩
        exact this ⟨by rw [h1, hx.1], by omega⟩
      rw [List.filter_cons_of_neg (by simpa using hx), this]
    · rw [if_neg hx] at he
      rw [List.filter_cons, if_pos (by exact decide_eq_true hx)]
      exact ((ih hk'.2 he).cons x).trans (List.Perm.swap _ _ _)
theorem ent_del (L : List Ent) (p q p' q' : Int) : ent (del L p q) p' q' = if p' = p ∧ q' = q then none else ent L p' q' := by
  induction L with
  | nil => simp [del, ent]
  | cons x L ih =>
    unfold del at *
    by_cases hx : x.pid = p ∧ (x.fd : Int) = q
    · rw [List.filter_cons_of_neg (by simpa using hx), ih, ent_cons]
      by_cases h : p' = p ∧ q' = q
      · simp [h]
      · have : ¬ (x.pid = p' ∧ (x.fd : Int) = q') := by rintro ⟨h1, h2⟩; exact h ⟨by rw [← h1, hx.1], by rw [← h2, hx.2]⟩
        simp [h, this]
    · rw [List.filter_cons, if_pos (by exact decide_eq_true hx), ent_cons, ih, ent_cons]
      by_cases h : p' = p ∧ q' = q
      · obtain ⟨rfl, rfl⟩ := h
        simp [hx]
      · simp [h]
theorem slot_del (L : List Ent) (p q p' : Int) (i : Nat) : slot (del L p q) p' i = if p' = p ∧ (i : Int) = q then none else slot L p' i := by
  unfold slot; rw [ent_del]; split <;> simp
theorem del_sub {L : List Ent} {p q : Int} {x : Ent} (h : x ∈ del L p q) : x ∈ L := (List.mem_filter.1 h).1
theorem refs_del {L : List Ent} (hk : Keyd L) {p q : Int} {e : Ent} (he : ent L p q = some e) (b : Nat) : refs L b = refs (del L p q) b + if e.blk = b then 1 else 0 := by
  rw [refs_perm (del_perm hk he), refs_cons]
theorem cnt_del {L : List Ent} (hk : Keyd L) {p q : Int} {e : Ent} (he : ent L p q = some e) : cnt L = cnt (del L p q) + if refs (del L p q) e.blk = 0 then 1 else 0 := by
  rw [cnt_perm (del_perm hk he)]; rfl
theorem refs_le (L : List Ent) (b : Nat) : refs L b ≤ L.length := List.length_filter_le _ _
theorem refs_pos {L : List Ent} {e : Ent} (he : e ∈ L) : 0 < refs L e.blk := by
  unfold refs
  rw [List.length_pos_iff_exists_mem]
  exact ⟨e, List.mem_filter.2 ⟨he, by simp⟩⟩
theorem cnt_le (L : List Ent) : cnt L ≤ L.length := by
  induction L with
  | nil => simp [cnt]
  | cons x L ih => simp only [cnt, List.length_cons]; split <;> omega

theorem ne_sh {w : World} {b b' : Nat} {t t' : TypeId} {n n' : Nat} (h1 : w.shape? b = some (t, n)) (h2 : w.shape? b' = some (t', n')) (h3 : t ≠ t') : b ≠ b' := by
  intro e
  subst e; rw [h1] at h2; simp only [Option.some.injEq, Prod.mk.injEq] at h2; exact h3 h2.1

/-- From w to w1: cells are others by g; marks, kinds and the map are as they were. -/
structure Upd (w w1 : World) (m : Nat) (al : List (Int × Value)) (g : Addr → Value → Value) : Prop where
  cell : ∀ a u, w.cell? a = some u → w1.cell? a = some (g a u)
  frozen : ∀ a, w1.frozen? a = w.frozen? a
  shape : ∀ b, w1.shape? b = w.shape? b
  map : MapIs kvi w1 m al
theorem Upd.refl {w : World} {m : Nat} {al : List (Int × Value)} (h : MapIs kvi w m al) : Upd w w m al (fun _ u => u) := ⟨fun _ _ h => h, fun _ => rfl, fun _ => rfl, h⟩
theorem Upd.setCell {w w1 : World} {m : Nat} {al : List (Int × Value)} {g : Addr → Value → Value} (h : Upd w w1 m al g) (b : Addr) (v : Value) : Upd w (w1.setCell b v) m al (fun a u => if b = a then v else g a u) :=
  ⟨fun a u hc => cell_store (h.cell a u hc), fun a => by rw [World.frozen?_setCell]; exact h.frozen a, fun k => (shape_setCell _ _ _ _).trans (h.shape k), MapIs_setCell h.map _ _⟩

theorem Rep.dup {w w1 : World} {f m : Nat} {L : List Ent} {al : List (Int × Value)} (h : Rep w f m L al) {pid : Int} {rb k : Nat} {e : Ent} (hr : aget al pid = some (.pointer (some ⟨rb, 0, none⟩))) (hk : k < 8)
    (hfree : ent L pid k = none) (hp : 1 ≤ pid) (he : e ∈ L) {g : Addr → Value → Value} (hu : Upd w w1 m al g)
    (hg : ∀ a u, g a u = if a = ⟨e.blk, 2, none⟩ then .int .i64 (↑(refs L e.blk) + 1) else if a = ⟨rb, k, none⟩ then .pointer (some ⟨e.blk, 0, none⟩) else u) :
    Rep w1 f m (⟨pid, k, e.blk, e.kind, e.thing⟩ :: L) al := by
  obtain ⟨rb', hrb', hrow, hrz, hrs⟩ := h.row pid _ (aget_mem hr)
  obtain rfl : rb = rb' := by simpa using hrb'
  obtain ⟨e1, e2, e3, e4, e5⟩ := h.file e he
  have hrf : rb ≠ f := ne_sh hrs h.fs (by decide)
  have hbf : e.blk ≠ f := ne_sh e5 h.fs (by decide)
  have hbr : e.blk ≠ rb := ne_sh e5 hrs (by decide)
  have hc0 : cnt (⟨pid, k, e.blk, e.kind, e.thing⟩ :: L) = cnt L := by have := refs_pos he; simp [cnt]; omega
  refine ⟨?_, ?_, ?_, ?_, hu.map, h.nd, ?_, h.inj, ?_, ?_, ?_, ?_, h.lof, h.lor, ?_⟩
  rotate_right
  · intro x hx
    rcases List.mem_cons.1 hx with rfl | hx
    · exact h.lob e he
    · exact h.lob x hx
  · rw [hu.cell _ _ h.f0, hg]; simp [hrf.symm, hbf.symm]
  · rw [hu.cell _ _ h.f1, hg, hc0]; simp [hrf.symm, hbf.symm]
  · rw [hu.frozen]; exact h.ff
  · rw [hu.shape]; exact h.fs
  · intro p v hpv
    obtain ⟨rc, h1, h2, h3, h4⟩ := h.row p v hpv
    have hcb : rc ≠ e.blk := ne_sh h4 e5 (by decide)
    refine ⟨rc, h1, fun i hi => ?_, fun i hi => by rw [hu.frozen]; exact h3 i hi, by rw [hu.shape]; exact h4⟩
    rw [hu.cell _ _ (h2 i hi), hg, slot_cons]
    by_cases hpp : pid = p
    · subst hpp
      obtain rfl : rb = rc := by
        have := aget_of_mem h.nd hpv
        rw [hr] at this
        simp only [Option.some.injEq] at this
        rw [← this] at h1
        simpa using h1
      by_cases hik : i = k
      · subst hik; simp [pv, hcb]
      · simp [hik, hcb, Ne.symm hik]
    · have : rc ≠ rb := by
        intro e
        subst e
        refine hpp (h.inj pid p _ (aget_mem hr) ?_)
        rw [h1] at hpv; exact hpv
      simp [hpp, this, hcb]
  · intro x hx
    rcases List.mem_cons.1 hx with rfl | hx
    · exact List.mem_map.2 ⟨_, aget_mem hr, rfl⟩
    · exact h.has x hx
  · have fl : ∀ x ∈ L, FileAt w1 x.blk x.kind x.thing (refs (⟨pid, k, e.blk, e.kind, e.thing⟩ :: L) x.blk) := by
      intro x hx
      obtain ⟨h1, h2, h3, h4, h5⟩ := h.file x hx
      have n1 : x.blk ≠ rb := ne_sh h5 hrs (by decide)
      refine ⟨?_, ?_, ?_, by rw [hu.frozen]; exact h4, by rw [hu.shape]; exact h5⟩
      · rw [hu.cell _ _ h1, hg]; simp [n1]
      · rw [hu.cell _ _ h2, hg]; simp [n1]
      · rw [hu.cell _ _ h3, hg, refs_cons]
        by_cases ee : x.blk = e.blk
        · simp [ee]
        · simp [n1, ee, Ne.symm ee]
    intro x hx
    rcases List.mem_cons.1 hx with rfl | hx
    · exact fl e he
    · exact fl x hx
  · intro x hx
    rcases List.mem_cons.1 hx with rfl | hx
    · exact ⟨hk, hp⟩
    · exact h.rng x hx
  · refine List.pairwise_cons.2 ⟨fun x hx => ?_, h.key⟩
    rintro ⟨h1, h2⟩
    simp only at h1 h2
    unfold ent at hfree
    rw [List.find?_eq_none] at hfree
    have := hfree x hx
    simp only [decide_eq_true_eq] at this
    omega

theorem Rep.close {w w1 : World} {f m : Nat} {L : List Ent} {al : List (Int × Value)} (h : Rep w f m L al) {pid : Int} {rb k : Nat} {e : Ent} (hr : aget al pid = some (.pointer (some ⟨rb, 0, none⟩)))
    (he : ent L pid k = some e) {g : Addr → Value → Value} (hu : Upd w w1 m al g)
    (hg : ∀ a u, g a u = if a = ⟨f, 1, none⟩ then (if cnt (del L pid k) = cnt L then u else .int .i64 (cnt (del L pid k))) else if a = ⟨e.blk, 2, none⟩ then .int .i64 (refs (del L pid k) e.blk) else if a = ⟨rb, k, none⟩ then .pointer none else u) :
    Rep w1 f m (del L pid k) al := by
  obtain ⟨heL, hep, hek⟩ := ent_some he
  obtain ⟨rb', hrb', hrow, hrz, hrs⟩ := h.row pid _ (aget_mem hr)
  obtain rfl : rb = rb' := by simpa using hrb'
  obtain ⟨e1, e2, e3, e4, e5⟩ := h.file e heL
  have hrf : rb ≠ f := ne_sh hrs h.fs (by decide)
  have hbf : e.blk ≠ f := ne_sh e5 h.fs (by decide)
  have hbr : e.blk ≠ rb := ne_sh e5 hrs (by decide)
  refine ⟨?_, ?_, ?_, ?_, hu.map, h.nd, ?_, h.inj, fun x hx => h.has x (del_sub hx), ?_, fun x hx => h.rng x (del_sub hx), h.key.filter _, h.lof, h.lor, fun x hx => h.lob x (del_sub hx)⟩
  · rw [hu.cell _ _ h.f0, hg]; simp [hrf.symm, hbf.symm]
  · rw [hu.cell _ _ h.f1, hg]
    by_cases hc : cnt (del L pid k) = cnt L <;> simp [hc]
  · rw [hu.frozen]; exact h.ff
  · rw [hu.shape]; exact h.fs
  · intro p v hpv
    obtain ⟨rc, h1, h2, h3, h4⟩ := h.row p v hpv
    have hcb : rc ≠ e.blk := ne_sh h4 e5 (by decide)
    have hcf : rc ≠ f := ne_sh h4 h.fs (by decide)
    refine ⟨rc, h1, fun i hi => ?_, fun i hi => by rw [hu.frozen]; exact h3 i hi, by rw [hu.shape]; exact h4⟩
    rw [hu.cell _ _ (h2 i hi), hg, slot_del]
    by_cases hpp : p = pid
    · subst hpp
      obtain rfl : rb = rc := by
        have := aget_of_mem h.nd hpv
        rw [hr] at this
        simp only [Option.some.injEq] at this
        rw [← this] at h1
        simpa using h1
      by_cases hik : i = k
      · subst hik; simp [pv, hcb, hcf]
      · have : ¬ ((i : Int) = k) := by omega
        simp [hik, hcb, hcf, this]
    · have : rc ≠ rb := by
        intro e
        subst e
        refine hpp (h.inj p pid _ ?_ (aget_mem hr))
        rw [h1] at hpv; exact hpv
      simp [hpp, this, hcb, hcf]
  · intro x hx
    obtain ⟨h1, h2, h3, h4, h5⟩ := h.file x (del_sub hx)
    have n1 : x.blk ≠ rb := ne_sh h5 hrs (by decide)
    have n2 : x.blk ≠ f := ne_sh h5 h.fs (by decide)
    refine ⟨?_, ?_, ?_, by rw [hu.frozen]; exact h4, by rw [hu.shape]; exact h5⟩
    · rw [hu.cell _ _ h1, hg]; simp [n1, n2]
    · rw [hu.cell _ _ h2, hg]; simp [n1, n2]
    · rw [hu.cell _ _ h3, hg]
      by_cases ee : x.blk = e.blk
      · simp [ee, hbf]
      · have := refs_del h.key he x.blk
        rw [if_neg (fun h => ee h.symm)] at this
        simp [n1, n2, ee, this]

theorem shape_alloc2 (w : World) (x y : Value) (t : TypeId) : (w.alloc (.cells #[x, y] t)).shape? w.heap.size = some (t, 2) := by
  unfold World.shape?
  rw [World.alloc_heap_new]
  rfl

inductive DupR (L : List Ent) (pid fd : Int) : List Ent → Int → Int → Prop
  | err (er : Int) : er ≠ 0 → fnd L pid fd = (none, er) → DupR L pid fd L 0 er
  | fds (e : Ent) : 1 ≤ pid → ent L pid fd = some e → (∀ k : Nat, k < 8 → ent L pid k ≠ none) → DupR L pid fd L 0 81
  | ok (e : Ent) (k : Nat) : 1 ≤ pid → ent L pid fd = some e → k < 8 → ent L pid k = none → (∀ j : Nat, j < k → ent L pid j ≠ none) → DupR L pid fd (⟨pid, k, e.blk, e.kind, e.thing⟩ :: L) k 0

theorem pv_none : pv none = .pointer none := rfl
theorem pv_some (b : Nat) : pv (some b) = .pointer (some ⟨b, 0, none⟩) := rfl
attribute [local go_sem] pv_none pv_some
theorem fnd_cases {w : World} {f m : Nat} {L : List Ent} {al : List (Int × Value)} (h : Rep w f m L al) (pid fd : Int) :
    (∃ er : Int, er ≠ 0 ∧ fnd L pid fd = (none, er) ∧ getV L pid fd = (.agg #[.int .i64 0, .int .i64 0], er)) ∨
    (∃ e, 1 ≤ pid ∧ ent L pid fd = some e ∧ fnd L pid fd = (some e.blk, 0)) := by
  cases hx : ent L pid fd with
  | none =>
    by_cases hp : pid < 1
    · exact .inl ⟨2, by decide, by simp [fnd, hp], by simp [getV, hp]⟩
    · exact .inl ⟨80, by decide, by simp [fnd, hp, hx], by simp [getV, hp, hx]⟩
  | some e =>
    obtain ⟨he, hep, _⟩ := ent_some hx
    have hp := (h.rng e he).2
    rw [hep] at hp
    exact .inr ⟨e, hp, rfl, by simp [fnd, hx, Int.not_lt.2 hp]⟩
theorem Rep.rowOf {w : World} {f m : Nat} {L : List Ent} {al : List (Int × Value)} (h : Rep w f m L al) {pid fd : Int} {e : Ent} (he : ent L pid fd = some e) :
    ∃ rb, aget al pid = some (.pointer (some ⟨rb, 0, none⟩)) ∧ rb < w.heap.size ∧ rb ≠ f ∧ e.blk ≠ rb ∧ e.blk ≠ f ∧ e.blk < w.heap.size := by
  cases hg : aget al pid with
  | none => rw [ent_none_of h hg] at he; cases he
  | some v =>
    obtain ⟨rb, rfl, h2, _, h4⟩ := h.row pid v (aget_mem hg)
    obtain ⟨g1, _, _, _, g5⟩ := h.file e (ent_some he).1
    exact ⟨rb, rfl, World.block_lt_of_cell? _ _ (h2 0 (by omega)), ne_sh h4 h.fs (by decide), ne_sh g5 h4 (by decide), ne_sh g5 h.fs (by decide), World.block_lt_of_cell? _ _ g1⟩
theorem Rep.rowFree {w : World} {f m : Nat} {L : List Ent} {al : List (Int × Value)} (h : Rep w f m L al) {pid : Int} {rb : Nat} (hr : aget al pid = some (.pointer (some ⟨rb, 0, none⟩))) (i : Nat) (hi : i < 8) :
    w.cell? ⟨rb, i, none⟩ = some (pv (slot L pid i)) ∧ w.frozen? ⟨rb, i, none⟩ = false := by
  obtain ⟨rb', hrb', hrow, hrz, _⟩ := h.row pid _ (aget_mem hr)
  obtain rfl : rb = rb' := by simpa using hrb'
  exact ⟨hrow i hi, hrz i hi⟩

set_option maxHeartbeats 1600000 in
theorem dup_any {w : World} {f m : Nat} {L : List Ent} {al : List (Int × Value)} (hrep : Rep w f m L al) (pid fd : Int) (hcl : L.length < 1000000) :
    Calls Try.prog 14 #[.pointer (some ⟨f, 0, none⟩), .int .i64 pid, .int .i64 fd] w fun e w' =>
      ∃ L' r er, e = .returned (.tuple #[.int .i64 r, .int .i64 er]) ∧ DupR L pid fd L' r er ∧ Step w f m L' w' := by
  rcases fnd_cases hrep pid fd with ⟨er, her, h1, _⟩ | ⟨e, hp, hx, h1⟩
  · have H1 := Lib.hid h1
    have her' : (er == 0) = false := by simpa using her
    clear h1
    go_enter Try.func14, Try.ntmps14
    go_wp2_with (go_at_call 26; refine (find_any hrep pid fd).mono ?_; rintro e w' ⟨rfl, hs⟩; rw [H1.out]; simp only [pv, Option.map_none])
    go_ret2
    exact ⟨L, 0, er, rfl, .err er her H1.out, al, hrep.same0 hs, own_of hs⟩
  · have H1 := Lib.hid h1
    have HX := Lib.hid hx
    obtain ⟨rb, hg, hl2, hrf, hbr, hbf, hbl⟩ := hrep.rowOf hx
    have hm := hrep.hm
    have hf0 := hrep.f0
    have hlf := hrep.lt.1
    have hlk : ∀ W, Same (fun _ => False) w W → (Instr.lookup 57 (.map (some m)) (.int .i64 pid) false).run Try.prog W = .ok (.pointer (some ⟨rb, 0, none⟩)) W := by
      intro W hs
      have := lk57n (hm.same hs (by simp)) pid
      rw [hg] at this
      exact this
    have HL := Lib.hid hlk
    have HG := Lib.hid hg
    clear h1 hx hlk hg
    go_enter Try.func14, Try.ntmps14
    go_wp2_with (first | (go_at_call 26; refine (find_any hrep pid fd).mono ?_; rintro e1 w2 ⟨rfl, hs⟩; rw [H1.out]; simp only [pv, Option.map_some]; have hlk := HL.out w2 hs; have hf2 := hs.cell hf0 (by simp)) | (go_at_call 25; refine (free_any _ rb _ ((hrep.same0 hs).rowAt HG.out)).mono ?_; rintro e3 w3 ⟨r, (⟨rfl, hfr⟩ | ⟨k, hk, rfl, hgk, hfr⟩), rfl, hs3⟩; all_goals (have hs4 := hs.trans hs3; have hR3 := hrep.same0 hs4; have hlk3 := HL.out w3 hs4; have hf3 := hR3.f0; have hrw := hR3.rowFree HG.out; have hrl := refs_le L e.blk; obtain ⟨g1, g2, g3, g4, g5⟩ := hR3.file e (ent_some HX.out).1; have HR3 := Lib.hid hR3; clear hR3 g1 g2 g5)))
    · go_ret2
      exact ⟨L, 0, 81, rfl, .fds e hp HX.out (fun i hi e => hfr i hi (slot_none.2 e)), al, (hrep.same0 hs).same0 hs3, own_of (hs.trans hs3)⟩
    · go_ret2
      have hR3 := HR3.out
      exact ⟨_, k, 0, rfl, .ok e k hp HX.out hk (slot_none.1 hgk) (fun j hj e => hfr j hj (slot_none.2 e)), al, hR3.dup HG.out hk (slot_none.1 hgk) hp (ent_some HX.out).1 (((Upd.refl hR3.hm).setCell ⟨rb, k, none⟩ (.pointer (some ⟨e.blk, 0, none⟩))).setCell ⟨e.blk, 2, none⟩ (.int .i64 (↑(refs L e.blk) + 1))) (fun a u => by simp only [eq_comm]),
        own_trans (own_of hs4) (((Same.refl _ _).setCell _ (.inr (hR3.ownRow HG.out))).setCell _ (.inr (hR3.ownFile (ent_some HX.out).1)))⟩

inductive CloseR (L : List Ent) (pid fd : Int) : List Ent → Int → Int → Bool → Int → Prop
  | err (er : Int) : er ≠ 0 → fnd L pid fd = (none, er) → getV L pid fd = (.agg #[.int .i64 0, .int .i64 0], er) → CloseR L pid fd L 0 0 false er
  | ok (e : Ent) : 1 ≤ pid → ent L pid fd = some e → CloseR L pid fd (del L pid fd) e.kind e.thing (decide (refs (del L pid fd) e.blk = 0)) 0

set_option maxHeartbeats 1600000 in
theorem close_any {w : World} {f m : Nat} {L : List Ent} {al : List (Int × Value)} (hrep : Rep w f m L al) (pid fd : Int) (hcl : L.length < 1000000) :
    Calls Try.prog 15 #[.pointer (some ⟨f, 0, none⟩), .int .i64 pid, .int .i64 fd] w fun e w' =>
      ∃ L' K T g er, e = .returned (.tuple #[.agg #[.int .i64 K, .int .i64 T], .bool g, .int .i64 er]) ∧ CloseR L pid fd L' K T g er ∧ Rep w' f m L' al ∧ Same (Own w m) w w' := by
  have hR : Rep (w.alloc (.cells #[.int .i64 0, .int .i64 0] 23)) f m L al := hrep.same0 (same_alloc _)
  rcases fnd_cases hrep pid fd with ⟨er, her, h1, hgv⟩ | ⟨e, hp, hx, h1⟩
  · have H1 := Lib.hid h1
    have her' : (er == 0) = false := by simpa using her
    clear h1
    go_enter Try.func15, Try.ntmps15
    go_wp2_with (go_at_call 26; refine (find_any hR pid fd).mono ?_; rintro e w' ⟨rfl, hs⟩; rw [H1.out]; simp only [pv, Option.map_none]; obtain ⟨hc0, hc1, hz0, hz1, hlt⟩ := new2 hs (by simp))
    refine bodyPost_ret (v := .tuple #[.agg #[.int .i64 0, .int .i64 0], .bool false, .int .i64 er]) (by simp [results, Try.results15, go_sem, hc0, hc1]) rfl ⟨L, 0, 0, false, er, rfl, .err er her H1.out hgv, ?_⟩
    have hs' : Same (fun _ => False) w ((w'.setCell ⟨w.heap.size, 0, none⟩ (.int .i64 0)).setCell ⟨w.heap.size, 1, none⟩ (.int .i64 0)) :=
      (((same_alloc _).trans hs).mono (T := fun _ => False) (fun _ _ h => h)).setCell _ (.inl (Nat.le_refl _)) |>.setCell _ (.inl (Nat.le_refl _))
    exact ⟨hrep.same0 hs', own_of hs'⟩
  · have H1 := Lib.hid h1
    have HX := Lib.hid hx
    obtain ⟨rb, hg, hl2, hrf, hbr, hbf, hbl⟩ := hrep.rowOf hx
    have hm := hrep.hm
    have hlf := hrep.lt.1
    obtain ⟨k, rfl⟩ : ∃ k : Nat, fd = k := ⟨e.fd, (ent_some hx).2.2.symm⟩
    have hk : k < 8 := by have := (hrep.rng e (ent_some hx).1).1; have := (ent_some hx).2.2; omega
    have hlk : ∀ W, Same (fun _ => False) w W → (Instr.lookup 57 (.map (some m)) (.int .i64 pid) false).run Try.prog W = .ok (.pointer (some ⟨rb, 0, none⟩)) W := by
      intro W hs
      have := lk57n (hm.same hs (by simp)) pid
      rw [hg] at this
      exact this
    have HL := Lib.hid hlk
    have HG := Lib.hid hg
    have hrd := refs_del hrep.key hx e.blk
    simp only [if_true] at hrd
    have hcd := cnt_del hrep.key hx
    have hrl := refs_le L e.blk
    have hcl2 := cnt_le L
    have HRD := Lib.hid hrd
    have HCD := Lib.hid hcd
    clear h1 hlk hg hrd hcd
    by_cases hz : refs (del L pid k) e.blk = 0
    · have hzb : (((refs L e.blk : Nat) : Int) - 1 == 0) = true := by have := HRD.out; rw [beq_iff_eq]; omega
      go_enter Try.func15, Try.ntmps15
      go_wp2_with fail
      refine (find_any hR pid k).mono ?_
      rintro e1 w2 ⟨rfl, hs⟩
      rw [H1.out]
      simp only [pv, Option.map_some]
      obtain ⟨hc0, hc1, hz0, hz1, hlt⟩ := new2 hs (by simp)
      have hs4 := (same_alloc _).trans hs
      have hlk := HL.out w2 hs4
      have hR2 := hR.same0 hs
      have hf2 := hR2.f0
      have hf3 := hR2.f1
      have hf4 := hR2.ff
      obtain ⟨hcr, hcz⟩ := hR2.rowFree HG.out k hk
      have hsl : slot L pid k = some e.blk := by unfold slot; rw [HX.out]; rfl
      rw [hsl] at hcr
      simp only [pv, Option.map_some] at hcr
      clear hsl
      obtain ⟨g1, g2, g3, g4, g5⟩ := hR2.file e (ent_some HX.out).1
      have HR2 := Lib.hid hR2
      have HZ := Lib.hid hz
      clear g5 hR2 hz
      have hl5 : f < w2.heap.size := World.block_lt_of_cell? _ _ hf2
      have hl6 : e.blk < w2.heap.size := World.block_lt_of_cell? _ _ g1
      have hbr' := hbr.symm
      have hbf' := hbf.symm
      have hrf' := hrf.symm
      have hsn : w2.shape? w.heap.size = some (23, 2) := (hs.shp _ (by simp)).trans (shape_alloc2 _ _ _ _)
      have hmn := hrep.lt.2
      go_wp2
      go_region
      go_wp2
      have hd := HRD.out
      have hcc := HCD.out
      have hz := HZ.out
      have hR2 := HR2.out
      rw [show ((refs L e.blk : Nat) : Int) - 1 = (refs (del L pid k) e.blk : Nat) from by omega]
      rw [if_pos hz] at hcc
      rw [show ((cnt L : Nat) : Int) - 1 = (cnt (del L pid k) : Nat) from by omega]
      have hU := hR2.close HG.out HX.out ((((Upd.refl hR2.hm).setCell ⟨rb, k, none⟩ (.pointer none)).setCell ⟨e.blk, 2, none⟩ (.int .i64 (refs (del L pid k) e.blk))).setCell ⟨f, 1, none⟩ (.int .i64 (cnt (del L pid k))))
        (fun a u => by rw [if_neg (by omega : ¬ cnt (del L pid k) = cnt L)]; simp only [eq_comm])
      have hT : Same (fun b => b = rb ∨ b = e.blk ∨ b = f) w2 (((w2.setCell ⟨rb, k, none⟩ (.pointer none)).setCell ⟨e.blk, 2, none⟩ (.int .i64 (refs (del L pid k) e.blk))).setCell ⟨f, 1, none⟩ (.int .i64 (cnt (del L pid k)))) :=
        (((Same.refl _ _).setCell _ (.inr (.inl rfl))).setCell _ (.inr (.inr (.inl rfl)))).setCell _ (.inr (.inr (.inr rfl)))
      obtain ⟨w5, hw5⟩ : ∃ w5, w5 = ((w2.setCell ⟨rb, k, none⟩ (.pointer none)).setCell ⟨e.blk, 2, none⟩ (.int .i64 (refs (del L pid k) e.blk))).setCell ⟨f, 1, none⟩ (.int .i64 (cnt (del L pid k))) := ⟨_, rfl⟩
      rw [← hw5] at hU hT ⊢
      clear hw5
      have hn0 : ¬ (w.heap.size = rb ∨ w.heap.size = e.blk ∨ w.heap.size = f) := by omega
      have q0 := cell_store (a := ⟨w.heap.size, 0, none⟩) (v := .int .i64 e.kind) (hT.cell hc0 hn0)
      have q1 := cell_store (a := ⟨w.heap.size, 0, none⟩) (v := .int .i64 e.kind) (hT.cell hc1 hn0)
      have q2 := cell_store (a := ⟨w.heap.size, 1, none⟩) (v := .int .i64 e.thing) q0
      have q3 := cell_store (a := ⟨w.heap.size, 1, none⟩) (v := .int .i64 e.thing) q1
      simp at q2 q3
      have hsame : Same (· = w.heap.size) w5 ((w5.setCell ⟨w.heap.size, 0, none⟩ (.int .i64 e.kind)).setCell ⟨w.heap.size, 1, none⟩ (.int .i64 e.thing)).drew :=
        (((Same.refl (· = w.heap.size) w5).setCell (a := ⟨w.heap.size, 0, none⟩) _ (.inr rfl)).setCell (a := ⟨w.heap.size, 1, none⟩) _ (.inr rfl)).drew
      have hlt5 : w.heap.size < w5.heap.size := Nat.lt_of_lt_of_le hlt hT.size
      refine bodyPost_ret (v := .tuple #[.agg #[.int .i64 e.kind, .int .i64 e.thing], .bool (decide (refs (del L pid k) e.blk = 0)), .int .i64 0]) ?_ rfl ⟨_, e.kind, e.thing, _, 0, rfl, .ok e hp HX.out, ?_, ?_⟩
      · simp [results, Try.results15, go_sem, q2, q3, hz]
      · refine hU.same hsame ?_
        rintro b _ rfl ⟨_, hm' | ⟨t, n, hsh, ht⟩⟩
        · omega
        · rw [hT.shp _ hlt, hsn] at hsh
          simp only [Option.some.injEq, Prod.mk.injEq] at hsh
          obtain ⟨rfl, _⟩ := hsh
          simp at ht
      · have h1 : Same (Own w m) w w5 := own_trans (own_of hs4) (hT.mono (by
          rintro b _ (rfl | rfl | rfl)
          · exact hR2.ownRow HG.out
          · exact hR2.ownFile (ent_some HX.out).1
          · exact hR2.ownF))
        exact h1.trans' hsame (fun b hb hb' => by omega)
    · have hzb : (((refs L e.blk : Nat) : Int) - 1 == 0) = false := by have := HRD.out; rw [beq_eq_false_iff_ne]; omega
      go_enter Try.func15, Try.ntmps15
      go_wp2_with fail
      refine (find_any hR pid k).mono ?_
      rintro e1 w2 ⟨rfl, hs⟩
      rw [H1.out]
      simp only [pv, Option.map_some]
      obtain ⟨hc0, hc1, hz0, hz1, hlt⟩ := new2 hs (by simp)
      have hs4 := (same_alloc _).trans hs
      have hlk := HL.out w2 hs4
      have hR2 := hR.same0 hs
      have hf2 := hR2.f0
      have hf3 := hR2.f1
      have hf4 := hR2.ff
      obtain ⟨hcr, hcz⟩ := hR2.rowFree HG.out k hk
      have hsl : slot L pid k = some e.blk := by unfold slot; rw [HX.out]; rfl
      rw [hsl] at hcr
      simp only [pv, Option.map_some] at hcr
      clear hsl
      obtain ⟨g1, g2, g3, g4, g5⟩ := hR2.file e (ent_some HX.out).1
      have HR2 := Lib.hid hR2
      have HZ := Lib.hid hz
      clear g5 hR2 hz
      have hl5 : f < w2.heap.size := World.block_lt_of_cell? _ _ hf2
      have hl6 : e.blk < w2.heap.size := World.block_lt_of_cell? _ _ g1
      have hbr' := hbr.symm
      have hbf' := hbf.symm
      have hrf' := hrf.symm
      have hsn : w2.shape? w.heap.size = some (23, 2) := (hs.shp _ (by simp)).trans (shape_alloc2 _ _ _ _)
      have hmn := hrep.lt.2
      go_wp2
      go_region
      go_wp2
      have hd := HRD.out
      have hcc := HCD.out
      have hz := HZ.out
      have hR2 := HR2.out
      rw [show ((refs L e.blk : Nat) : Int) - 1 = (refs (del L pid k) e.blk : Nat) from by omega]
      rw [if_neg hz] at hcc
      have hU := hR2.close HG.out HX.out (((Upd.refl hR2.hm).setCell ⟨rb, k, none⟩ (.pointer none)).setCell ⟨e.blk, 2, none⟩ (.int .i64 (refs (del L pid k) e.blk)))
        (fun a u => by
          rw [if_pos (by omega : cnt (del L pid k) = cnt L)]
          simp only [eq_comm (a := a)]
          by_cases h1 : (⟨f, 1, none⟩ : Addr) = a
          · subst h1; simp [hbf, hrf]
          · simp [h1])
      have hT : Same (fun b => b = rb ∨ b = e.blk ∨ b = f) w2 ((w2.setCell ⟨rb, k, none⟩ (.pointer none)).setCell ⟨e.blk, 2, none⟩ (.int .i64 (refs (del L pid k) e.blk))) :=
        ((Same.refl _ _).setCell _ (.inr (.inl rfl))).setCell _ (.inr (.inr (.inl rfl)))
      obtain ⟨w5, hw5⟩ : ∃ w5, w5 = (w2.setCell ⟨rb, k, none⟩ (.pointer none)).setCell ⟨e.blk, 2, none⟩ (.int .i64 (refs (del L pid k) e.blk)) := ⟨_, rfl⟩
      rw [← hw5] at hU hT ⊢
      clear hw5
      have hn0 : ¬ (w.heap.size = rb ∨ w.heap.size = e.blk ∨ w.heap.size = f) := by omega
      have q0 := cell_store (a := ⟨w.heap.size, 0, none⟩) (v := .int .i64 e.kind) (hT.cell hc0 hn0)
      have q1 := cell_store (a := ⟨w.heap.size, 0, none⟩) (v := .int .i64 e.kind) (hT.cell hc1 hn0)
      have q2 := cell_store (a := ⟨w.heap.size, 1, none⟩) (v := .int .i64 e.thing) q0
      have q3 := cell_store (a := ⟨w.heap.size, 1, none⟩) (v := .int .i64 e.thing) q1
      simp at q2 q3
      have hsame : Same (· = w.heap.size) w5 ((w5.setCell ⟨w.heap.size, 0, none⟩ (.int .i64 e.kind)).setCell ⟨w.heap.size, 1, none⟩ (.int .i64 e.thing)).drew :=
        (((Same.refl (· = w.heap.size) w5).setCell (a := ⟨w.heap.size, 0, none⟩) _ (.inr rfl)).setCell (a := ⟨w.heap.size, 1, none⟩) _ (.inr rfl)).drew
      have hlt5 : w.heap.size < w5.heap.size := Nat.lt_of_lt_of_le hlt hT.size
      refine bodyPost_ret (v := .tuple #[.agg #[.int .i64 e.kind, .int .i64 e.thing], .bool (decide (refs (del L pid k) e.blk = 0)), .int .i64 0]) ?_ rfl ⟨_, e.kind, e.thing, _, 0, rfl, .ok e hp HX.out, ?_, ?_⟩
      · simp [results, Try.results15, go_sem, q2, q3, hz]
      · refine hU.same hsame ?_
        rintro b _ rfl ⟨_, hm' | ⟨t, n, hsh, ht⟩⟩
        · omega
        · rw [hT.shp _ hlt, hsn] at hsh
          simp only [Option.some.injEq, Prod.mk.injEq] at hsh
          obtain ⟨rfl, _⟩ := hsh
          simp at ht
      · have h1 : Same (Own w m) w w5 := own_trans (own_of hs4) (hT.mono (by
          rintro b _ (rfl | rfl | rfl)
          · exact hR2.ownRow HG.out
          · exact hR2.ownFile (ent_some HX.out).1
          · exact hR2.ownF))
        exact h1.trans' hsame (fun b hb hb' => by omega)
end Go.Proofs.Ytcllofffbmbmlaa
