/- Plain laws of frames attached to a space. Conditions: none.
Plain laws of attaching where there is room, and where there is none. Conditions: none.
The plain law of SpaceFrees. Conditions: none.
The plain law of SpaceFrees: its start. Conditions: none.
The plain law of SpaceShares: frames that several spaces have. Conditions: none.
The plain law of SpaceShares: two spaces, a frame attached to both, a child. Conditions: none.
The frames given. Conditions: none.
Given and Attach within a region that draws. Conditions: what stands. -/
import Derived.Test.YtlbgnmcjdmdjpaaK13
import Derived.Test.YtlbgnmcjdmdjpaaK10
import Derived.Test.YtlbgnmcjdmdjpaaK8
set_option linter.unusedSimpArgs false
set_option linter.unusedVariables false
open Go Go.Proofs
namespace Go.Proofs.Ytlbgnmcjdmdjpaa
structure Attd (M N : Mm) (r : Nat) (T' : Nat → Option Nat) (L : Sps) (E : Nat → Nat) (fl : Int) (l : List (Int × Int)) : Prop where
  good : N.Good ((r, T') :: L) E
  ext : M.Ext N r L E (fun q => ∃ x ∈ l, x.1 = (q : Int))
  pgs : ∀ x ∈ l, ∃ q f : Nat, x.1 = q ∧ fl = f ∧ q < 256 ∧ (M.lk r q).1 = 0 ∧ N.lk r q = ((f : Int), x.2)
  room : nfree M.R M.n ≤ nfree N.R M.n + 2 * l.length
theorem Mm.Good.ext_frame {M N : Mm} {r : Nat} {T : Nat → Option Nat} {L : Sps} {E : Nat → Nat} (h : M.Good ((r, T) :: L) E) {x : Nat} (hx : x < M.n) (h0 : 0 < E x) : 0 < M.R x ∧ ¬ treeFr ((r, T) :: L) x := by
  refine ⟨h.used hx (by omega), fun hc => ?_⟩
  have := (h.tfr hc).2.2
  omega
theorem Mm.Good.attU {r : Nat} {L : Sps} {E : Nat → Nat} {M0 : Mm} {fl : Int} : ∀ (l : List (Int × Int)) (M : Mm) (T : Nat → Option Nat) (U : List Und), M.Good ((r, T) :: L) E → M0.Eqv (M.undo r U.reverse) → (∀ x ∈ l, ∃ fr : Nat, x.2 = fr ∧ fr < M.n ∧ 0 < E fr) →
    ((Mm.attU r fl M U l).2 = 0 ∧ ∃ T', Attd M (Mm.attU r fl M U l).1 r T' L E fl l) ∨ ((Mm.attU r fl M U l).2 = 11 ∧ M0.Eqv (Mm.attU r fl M U l).1)
  | [], M, T, U, h, _, _ => .inl ⟨rfl, T, h, Mm.Ext.refl _ _ _ _ _, (fun p hp => by cases hp), (by simp [Mm.attU])⟩
  | (p, x) :: l, M, T, U, h, h0, hE => by
    obtain ⟨fr, hfr, hfn, hf0⟩ := hE _ List.mem_cons_self
    simp only at hfr
    subst hfr
    have hu := h.ext_frame (N := M) hfn hf0
    unfold Mm.attU
    rcases h.shared p fl fr hfn hu.1 hu.2 with ⟨a, q, f, T', rfl, rfl, hkB, hMp, hbk⟩ | ⟨a, b⟩
    · rw [if_pos a]
      generalize (M.shared r q fr f).1 = N at *
      rcases Mm.Good.attU (M0 := M0) (fl := (f : Int)) l N T' (U ++ [Und.page q]) hMp.good (undo_page h0 hbk) (fun y hy => by
        obtain ⟨z, e1, e2, e3⟩ := hE y (List.mem_cons_of_mem _ hy)
        exact ⟨z, e1, by rw [hMp.ext.n]; exact e2, e3⟩) with ⟨c, T2, g⟩ | c
      · left
        refine ⟨c, T2, g.good, (hMp.ext.mono (fun _ e => e) (fun y e => ⟨_, List.mem_cons_self, by subst e; rfl⟩)).trans (g.ext.mono (fun _ e => e) (fun y ⟨z, hz, e⟩ => ⟨z, List.mem_cons_of_mem _ hz, e⟩)), fun y hy => ?_, ?_⟩
        · rcases List.mem_cons.1 hy with rfl | hy
          · have hnot : ¬ (∃ x ∈ l, x.1 = (q : Int)) := fun ⟨z, hz, e⟩ => by
              obtain ⟨q', f', e1, _, _, e2, _⟩ := g.pgs _ hz
              have : q' = q := by omega
              subst this
              exact hMp.now e2
            exact ⟨q, f, rfl, rfl, hMp.pp, hMp.was, by rw [g.ext.hd q hMp.pp hnot, hMp.lk]⟩
          · obtain ⟨q', f', e1, e0, e2, e3, e4⟩ := g.pgs y hy
            refine ⟨q', f', e1, e0, e2, ?_, e4⟩
            rw [← hMp.ext.hd q' e2 (fun e => by subst e; exact hMp.now e3)]
            exact e3
        · have := hMp.room
          have h2 := g.room
          rw [hMp.ext.n] at h2
          simp only [List.length_cons]
          omega
      · exact .inr c
    · rw [if_neg (by omega)]
      exact .inr ⟨rfl, h0.trans (Mm.Eqv.undo _ b)⟩
theorem mem_pairsFrom : ∀ (l : List Int) (p : Int) (x : Int × Int), x ∈ pairsFrom p l → ∃ i : Nat, x.1 = p + i ∧ l[i]? = some x.2
  | [], _, _, h => by cases h
  | y :: l, p, x, h => by
    rcases List.mem_cons.1 h with rfl | h
    · exact ⟨0, by simp, rfl⟩
    · obtain ⟨i, e1, e2⟩ := mem_pairsFrom l (p + 1) x h
      exact ⟨i + 1, by rw [e1]; omega, e2⟩
theorem pairsFrom_mem : ∀ (l : List Int) (p : Int) (i : Nat) (x : Int), l[i]? = some x → (p + i, x) ∈ pairsFrom p l
  | [], _, _, _, h => by cases h
  | y :: l, p, 0, x, h => by
    rw [List.getElem?_cons_zero, Option.some.injEq] at h
    subst h
    simp [pairsFrom]
  | y :: l, p, i + 1, x, h => by
    rw [List.getElem?_cons_succ] at h
    have := pairsFrom_mem l (p + 1) i x h
    unfold pairsFrom
    refine List.mem_cons_of_mem _ ?_
    rw [show p + ((i + 1 : Nat) : Int) = p + 1 + (i : Int) by omega]
    exact this
/-- Frames that somebody has are attached, or nothing is done. -/
theorem Mm.Good.attach {M : Mm} {r : Nat} {T : Nat → Option Nat} {L : Sps} {E : Nat → Nat} (h : M.Good ((r, T) :: L) E) (s : Spc) (hr : s.root = r) (page : Int) (l : List Int) (wr : Bool) (hl : ∀ x ∈ l, ∃ fr : Nat, x = fr ∧ fr < M.n ∧ 0 < E fr) :
    ((M.attach s page l wr).2 = 0 ∧ l.length ≠ 0 ∧ 128 ≤ page ∧ page + l.length ≤ 240 ∧ ∃ T', Attd M (M.attach s page l wr).1 r T' L E (if wr then 7 else 5) (pairsFrom page l)) ∨
    ((M.attach s page l wr).2 ≠ 0 ∧ M.Eqv (M.attach s page l wr).1) := by
  unfold Mm.attach
  by_cases c1 : l.length = 0 ∨ page < 128 ∨ 240 ≤ page ∨ 240 - page < l.length
  · rw [if_pos c1]; exact .inr ⟨by simp, Mm.Eqv.refl M⟩
  rw [if_neg c1]
  by_cases c2 : ((List.range l.length).any fun (i : Nat) => (M.walk s.root (page + i)).2.2 == 0) = true
  · rw [if_pos c2]; exact .inr ⟨by simp, Mm.Eqv.refl M⟩
  rw [if_neg c2]
  by_cases c3 : (l.any fun x => M.refs x == 0) = true
  · rw [if_pos c3]; exact .inr ⟨by simp, Mm.Eqv.refl M⟩
  rw [if_neg c3, hr]
  rcases Mm.Good.attU (M0 := M) (fl := if wr then 7 else 5) (pairsFrom page l) M T [] h (Mm.Eqv.refl M) (fun x hx => by
    obtain ⟨i, _, e⟩ := mem_pairsFrom l page x hx
    exact hl x.2 (List.mem_of_getElem? e)) with ⟨a, T', g⟩ | ⟨a, b⟩
  · exact .inl ⟨a, by omega, by omega, by omega, T', g⟩
  · exact .inr ⟨by rw [a]; decide, b⟩
end Go.Proofs.Ytlbgnmcjdmdjpaa
open Go Go.Proofs
namespace Go.Proofs.Ytlbgnmcjdmdjpaa
theorem nfree_lo {R : Nat → Int} {c : Nat → Nat} : ∀ n : Nat, (∀ x, x < n → 0 < R x → 1 ≤ c x) → n ≤ nfree R n + sm c n
  | 0, _ => Nat.zero_le _
  | n + 1, h => by
    have ih := nfree_lo n (fun x hx => h x (by omega))
    have a := h n (by omega)
    simp only [nfree, sm]
    by_cases e : 0 < R n
    · have := a e; rw [if_pos e]; omega
    · rw [if_neg e]; omega
theorem nfree_iff {R R' : Nat → Int} (h : ∀ x, 0 < R' x ↔ 0 < R x) : ∀ n : Nat, nfree R' n = nfree R n
  | 0 => rfl
  | n + 1 => by
    simp only [nfree, nfree_iff h n]
    congr 1
    by_cases e : 0 < R n
    · rw [if_pos e, if_pos ((h n).2 e)]
    · rw [if_neg e, if_neg (fun c => e ((h n).1 c))]
theorem cn_all {P : Nat → Bool} : ∀ n : Nat, cn P n ≤ n
  | 0 => Nat.le_refl _
  | n + 1 => by
    have := cn_all (P := P) n
    simp only [cn]; split <;> omega
/-- At least so many frames are left, where there is one space. -/
theorem Mm.Good.free_lo {M : Mm} {r : Nat} {T : Nat → Option Nat} {E : Nat → Nat} (h : M.Good [(r, T)] E) :
    M.n ≤ nfree M.R M.n + sm (fun x => if 0 < E x then 1 else 0) M.n + (1 + 16 + cn (fun p => decide (p < 256 ∧ (M.lk r p).1 ≠ 0 ∧ E (M.lk r p).2.toNat = 0)) 256) := by
  have hT := h.tre (r, T) List.mem_cons_self
  simp only at hT
  have a := nfree_lo (R := M.R) (c := fun x => (if 0 < E x then 1 else 0) + ((if x = r then 1 else 0) + cn (fun i => T i == some x) 16 + cn (fun p => decide (p < 256 ∧ (M.lk r p).1 ≠ 0 ∧ (M.lk r p).2 = (x : Int) ∧ E x = 0)) 256)) M.n (fun x hx h0 => by
    have c := h.cnt x hx
    by_cases e : 0 < E x
    · simp only [if_pos e]; omega
    have e0 : E x = 0 := by omega
    simp only [osum, own] at c
    rw [cn_congr (P := fun p => decide ((M.lk r p).1 ≠ 0 ∧ (M.lk r p).2 = (x : Int))) (Q := fun p => decide (p < 256 ∧ (M.lk r p).1 ≠ 0 ∧ (M.lk r p).2 = (x : Int) ∧ E x = 0)) 256 (fun p hp => by simp [hp, e0])] at c
    omega)
  rw [sm_add, sm_add, sm_add, sm_one, if_pos hT.rn] at a
  have e1 : sm (fun x => cn (fun i => T i == some x) 16) M.n = tcn T := by
    refine sm_cn (P := fun x i => T i == some x) (Q := fun i => (T i).isSome) (f := fun i => (T i).getD 0) (fun i hi => ?_) (fun i hi x _ => ?_) 16 (fun _ _ => trivial)
    · cases e : T i with
      | none => rw [e] at hi; cases hi
      | some k =>
        refine ⟨(hT.tb i k e).2.1, fun x => ?_⟩
        by_cases e2 : x = k
        · subst e2; simp
        · have : ¬ k = x := fun e => e2 e.symm
          simp [e2, this]
    · cases e : T i with
      | none => rfl
      | some k => rw [e] at hi; cases hi
  have e2 : sm (fun x => cn (fun p => decide (p < 256 ∧ (M.lk r p).1 ≠ 0 ∧ (M.lk r p).2 = (x : Int) ∧ E x = 0)) 256) M.n = cn (fun p => decide (p < 256 ∧ (M.lk r p).1 ≠ 0 ∧ E (M.lk r p).2.toNat = 0)) 256 := by
    refine sm_cn (P := fun x p => decide (p < 256 ∧ (M.lk r p).1 ≠ 0 ∧ (M.lk r p).2 = (x : Int) ∧ E x = 0)) (Q := fun p => decide (p < 256 ∧ (M.lk r p).1 ≠ 0 ∧ E (M.lk r p).2.toNat = 0)) (f := fun p => (M.lk r p).2.toNat) (fun p hq => ?_) (fun p hq x _ => ?_) 256 (fun _ _ => trivial)
    · have hq := of_decide_eq_true hq
      obtain ⟨fl, y, e, hy, _⟩ := h.pg _ List.mem_cons_self p hq.1 hq.2.1
      simp only at e
      have hz := hq.2.2
      rw [e] at hz
      simp only [Int.toNat_natCast] at hz
      refine ⟨by rw [e]; simpa using hy, fun x => ?_⟩
      rw [Bool.eq_iff_iff]
      simp only [decide_eq_true_eq]
      rw [e]
      simp only [Int.toNat_natCast]
      constructor
      · rintro ⟨_, _, h, _⟩; omega
      · intro h
        have e1 := hq.2.1
        rw [e] at e1
        exact ⟨hq.1, e1, by omega, by rw [h]; exact hz⟩
    · have hq := of_decide_eq_false hq
      refine decide_eq_false (fun h => hq ⟨h.1, h.2.1, ?_⟩)
      rw [h.2.2.1]
      exact h.2.2.2
  have e3 : tcn T ≤ 16 := cn_all 16
  rw [e1, e2] at a
  omega
/-- No frame of one space is shared too often. -/
theorem Mm.Good.share_lt {M : Mm} {r : Nat} {T : Nat → Option Nat} {E : Nat → Nat} (h : M.Good [(r, T)] E) {x : Nat} (hx : x < M.n) (hE : E x ≤ 1) : M.R x < 1000 := by
  have c := h.cnt x hx
  simp only [osum, own] at c
  have a := cn_all (P := fun i => T i == some x) 16
  have b := cn_all (P := fun p => decide ((M.lk r p).1 ≠ 0 ∧ (M.lk r p).2 = (x : Int))) 256
  split at c <;> omega
theorem Mm.Good.shared_ok {M : Mm} {r : Nat} {T : Nat → Option Nat} {E : Nat → Nat} (h : M.Good [(r, T)] E) {p fl fr : Nat} (hp : p < 256) (hf7 : fl ≤ 7) (hf2 : fl % 2 = 1) (h0 : (M.lk r p).1 = 0) (hroom : 1 ≤ nfree M.R M.n) (hfr : fr < M.n) (hE : E fr = 1) : (M.shared r p fr fl).2 = 0 := by
  have hu' := h.ext_frame (N := M) hfr (by omega)
  have hlt := h.share_lt hfr (by omega)
  have hu : M.isUsed fr = true := Mm.isUsed_nat hfr hu'.1
  have e : ¬ M.R fr = 1000 := by omega
  have hsh : M.share fr = (M.setR fr (M.R fr + 1), 0) := by simp [Mm.share, hu, e]
  obtain ⟨hG, hlk⟩ := h.share hfr hu'.1 hu'.2
  obtain ⟨cu, hU⟩ := hG.tree.tree
  have hn2 : M.n ≤ 256 := h.n2
  have hk2 : ∀ n : Nat, nfree (M.setR fr (M.R fr + 1)).R n = nfree M.R n := nfree_iff (fun x => by
    show 0 < (if x = fr then M.R fr + 1 else M.R x) ↔ _
    have := hu'.1
    by_cases e : x = fr
    · subst e; rw [if_pos rfl]; omega
    · rw [if_neg e])
  obtain ⟨k', hl'⟩ := (M.setR fr (M.R fr + 1)).room (by show 0 < nfree (M.setR fr (M.R fr + 1)).R M.n; rw [hk2]; omega)
  have hok := hU.map_ok hp (k := fr) (by omega) hf7 hf2 (by rw [hlk _ List.mem_cons_self p hp]; exact h0) (by rw [hl']; simp)
  unfold Mm.shared
  rw [hsh]
  simp only [Mm.maps, hok, if_true]
theorem Mm.Good.attU_ok {r : Nat} {E : Nat → Nat} (fl : Nat) (hf7 : fl ≤ 7) (hf2 : fl % 2 = 1) : ∀ (l : List (Int × Int)) (M : Mm) (T : Nat → Option Nat) (U : List Und), M.Good [(r, T)] E → (l.map (·.1)).Nodup →
    (∀ x ∈ l, ∃ q fr : Nat, x = ((q : Int), (fr : Int)) ∧ q < 256 ∧ (M.lk r q).1 = 0 ∧ fr < M.n ∧ E fr = 1) → 2 * l.length ≤ nfree M.R M.n → (Mm.attU r fl M U l).2 = 0
  | [], M, T, U, h, _, _, _ => rfl
  | (p, x) :: l, M, T, U, h, hnd, hl, hroom => by
    obtain ⟨q, fr, e, hq, hq0, hfr, hE⟩ := hl _ List.mem_cons_self
    cases e
    simp only [List.length_cons] at hroom
    have a := h.shared_ok hq hf7 hf2 hq0 (by omega) hfr hE
    have hu := h.ext_frame (N := M) hfr (by omega)
    obtain ⟨_, q', fl', T', e1, e2, _, hMp, _⟩ := (h.shared q fl fr hfr hu.1 hu.2).resolve_right (fun g => by rw [a] at g; exact absurd g.1 (by decide))
    have e : q' = q := by omega
    subst e
    unfold Mm.attU
    rw [if_pos a]
    have h2 := hMp.room
    simp only [List.map_cons, List.nodup_cons] at hnd
    refine Mm.Good.attU_ok fl hf7 hf2 l _ T' _ hMp.good hnd.2 (fun y hy => ?_) (by rw [hMp.ext.n]; omega)
    obtain ⟨z, g, rfl, hz, hz0, hg, hgE⟩ := hl y (List.mem_cons_of_mem _ hy)
    refine ⟨z, g, rfl, hz, ?_, by rw [hMp.ext.n]; exact hg, hgE⟩
    rw [hMp.ext.hd z hz (fun e => by
      subst e
      exact hnd.1 (List.mem_map.2 ⟨_, hy, rfl⟩))]
    exact hz0
theorem pairsFrom_nodup : ∀ (l : List Int) (p : Int), ((pairsFrom p l).map (·.1)).Nodup
  | [], _ => List.nodup_nil
  | y :: l, p => by
    simp only [pairsFrom, List.map_cons, List.nodup_cons]
    refine ⟨fun h => ?_, pairsFrom_nodup l (p + 1)⟩
    obtain ⟨x, hx, e⟩ := List.mem_map.1 h
    obtain ⟨i, e1, _⟩ := mem_pairsFrom l (p + 1) x hx
    omega
/-- Frames are attached where nothing is and there is room. -/
theorem Mm.Good.attach_ok {M : Mm} {r : Nat} {T : Nat → Option Nat} {E : Nat → Nat} (h : M.Good [(r, T)] E) (s : Spc) (hr : s.root = r) (page : Nat) (l : List Int) (wr : Bool) (hl : ∀ x ∈ l, ∃ fr : Nat, x = fr ∧ fr < M.n ∧ E fr = 1)
    (h0 : l.length ≠ 0) (hp : 128 ≤ page) (hp2 : page + l.length ≤ 240) (hfree : ∀ q, page ≤ q → q < page + l.length → (M.lk r q).1 = 0) (hroom : 2 * l.length ≤ nfree M.R M.n) : (M.attach s page l wr).2 = 0 := by
  unfold Mm.attach
  rw [if_neg (by omega), hr]
  obtain ⟨cu, hU⟩ := h.tree.tree
  rw [if_neg, if_neg]
  · rw [show (if wr then (7 : Int) else 5) = ((if wr then 7 else 5 : Nat) : Int) by cases wr <;> rfl]
    refine Mm.Good.attU_ok _ (by cases wr <;> decide) (by cases wr <;> decide) _ M T [] h (pairsFrom_nodup l page) (fun x hx => ?_) (by rw [pairsFrom_len]; exact hroom)
    obtain ⟨i, e1, e2⟩ := mem_pairsFrom l page x hx
    obtain ⟨fr, e3, e4, e5⟩ := hl x.2 (List.mem_of_getElem? e2)
    have hi : i < l.length := by
      rcases Nat.lt_or_ge i l.length with c | c
      · exact c
      · rw [List.getElem?_eq_none c] at e2; cases e2
    refine ⟨page + i, fr, ?_, by omega, hfree _ (by omega) (by omega), e4, e5⟩
    exact Prod.ext (by simp only [e1]; omega) e3
  · intro hc
    obtain ⟨x, hx, e⟩ := List.any_eq_true.1 hc
    obtain ⟨fr, rfl, e4, e5⟩ := hl x hx
    have hu' := h.ext_frame (N := M) e4 (by omega)
    have hu : M.isUsed fr = true := Mm.isUsed_nat e4 hu'.1
    have e0 : M.refs fr = 0 := by simpa using e
    rw [(Mm.refs_zero M fr).1 e0] at hu
    cases hu
  · intro hc
    obtain ⟨i, hi, e⟩ := List.any_eq_true.1 hc
    have hi := List.mem_range.1 hi
    have := hU.walk (p := page + i) (by omega)
    rw [show ((page : Int) + (i : Int)) = ((page + i : Nat) : Int) by omega, this, if_pos (hfree _ (by omega) (by omega))] at e
    simp at e
/-- Nothing is attached where something is. -/
theorem Mm.Good.attach_no {M : Mm} {r : Nat} {T : Nat → Option Nat} {E : Nat → Nat} (h : M.Good [(r, T)] E) (s : Spc) (hr : s.root = r) (page : Int) (l : List Int) (wr : Bool) {q : Nat} (hq : page ≤ q) (hq2 : q < page + l.length) (hm : q < 256) (h0 : (M.lk r q).1 ≠ 0) : (M.attach s page l wr).1 = M ∧ (M.attach s page l wr).2 ≠ 0 := by
  unfold Mm.attach
  by_cases c1 : l.length = 0 ∨ page < 128 ∨ 240 ≤ page ∨ 240 - page < l.length
  · rw [if_pos c1]; exact ⟨rfl, by simp⟩
  obtain ⟨cu, hU⟩ := h.tree.tree
  rw [if_neg c1, if_pos]
  · exact ⟨rfl, by simp⟩
  · refine List.any_eq_true.2 ⟨(q - page).toNat, List.mem_range.2 (by omega), ?_⟩
    have := hU.walk hm
    rw [hr, show page + (((q : Int) - page).toNat : Int) = q by omega, this, if_neg h0]
    rfl
end Go.Proofs.Ytlbgnmcjdmdjpaa
open Go Go.Proofs
namespace Go.Proofs.Ytlbgnmcjdmdjpaa
def E4 (x : Nat) : Nat := if x < 4 then 1 else 0
theorem sm_E4 : sm (fun x => if 0 < E4 x then 1 else 0) 60 = 4 := by decide +kernel
/-- A space of attachments as SpaceFrees makes them. -/
structure FrS (M : Mm) (s : Spc) (r : Nat) (T : Nat → Option Nat) : Prop where
  n : M.n = 60
  good : M.Good [(r, T)] E4
  root : s.root = r
  inr : ∀ a ∈ s.atts, 128 ≤ a.pg ∧ 1 ≤ a.ct ∧ a.ct ≤ 4 ∧ a.pg + a.ct ≤ 147
  map : ∀ q : Nat, 128 ≤ q → q < 240 → ((M.lk r q).1 ≠ 0 ↔ ∃ a ∈ s.atts, a.pg ≤ q ∧ (q : Int) < a.pg + a.ct)
  fr : ∀ q : Nat, 128 ≤ q → q < 240 → (M.lk r q).1 ≠ 0 → E4 (M.lk r q).2.toNat ≠ 0
  out : ∀ q : Nat, 1 ≤ q → q < 254 → ¬ (128 ≤ q ∧ q < 240) → (M.lk r q).1 = 0
theorem FrS.room {M : Mm} {s : Spc} {r : Nat} {T : Nat → Option Nat} (h : FrS M s r T) : 8 ≤ nfree M.R M.n := by
  have a := h.good.free_lo
  rw [h.n, sm_E4] at a
  have b := cn_le (P := fun p => decide (p < 256 ∧ (M.lk r p).1 ≠ 0 ∧ E4 (M.lk r p).2.toNat = 0)) (a := 1) (b := 254) 256 (fun q hq e => by
    obtain ⟨_, e1, e2⟩ := of_decide_eq_true e
    by_cases c : q < 1 ∨ 254 ≤ q
    · exact c
    · by_cases d : 128 ≤ q ∧ q < 240
      · exact absurd e2 (h.fr q d.1 d.2 e1)
      · exact absurd (h.out q (by omega) (by omega) d) e1)
  rw [h.n]
  omega
/-- The frames given. -/
def GivenL (l : List Int) : Prop := 1 ≤ l.length ∧ l.length ≤ 4 ∧ ∀ x ∈ l, ∃ fr : Nat, x = fr ∧ fr < 4
theorem FrS.does {M : Mm} {s : Spc} {r : Nat} {T : Nat → Option Nat} (h : FrS M s r T) (page : Nat) (l : List Int) (wr : Bool) (hl : GivenL l) (hp : 128 ≤ page) (hp2 : page + l.length ≤ 240) :
    ((∀ q : Nat, page ≤ q → q < page + l.length → (M.lk r q).1 = 0) ∧ (M.attach s page l wr).2 = 0 ∧ ∀ l', l'.Perm (s.atts ++ [⟨page, l.length, wr⟩]) → page + l.length ≤ 147 → ∃ T', FrS (M.attach s page l wr).1 { s with atts := l' } r T') ∨
    ((∃ q : Nat, page ≤ q ∧ q < page + l.length ∧ (M.lk r q).1 ≠ 0) ∧ (M.attach s page l wr).2 ≠ 0 ∧ (M.attach s page l wr).1 = M) := by
  obtain ⟨g1, g2, g3⟩ := hl
  have hE : ∀ x ∈ l, ∃ fr : Nat, x = fr ∧ fr < M.n ∧ E4 fr = 1 := fun x hx => by
    obtain ⟨fr, e, hf⟩ := g3 x hx
    exact ⟨fr, e, by rw [h.n]; omega, by unfold E4; rw [if_pos hf]⟩
  by_cases hc : ∀ q : Nat, page ≤ q → q < page + l.length → (M.lk r q).1 = 0
  · left
    have hroom := h.room
    have ok := h.good.attach_ok s h.root page l wr hE (by omega) hp hp2 hc (by omega)
    refine ⟨hc, ok, fun l' hl' hp3 => ?_⟩
    rcases h.good.attach s h.root page l wr (fun x hx => by
      obtain ⟨fr, e, a, b⟩ := hE x hx
      exact ⟨fr, e, a, by omega⟩) with ⟨_, _, _, _, T', g⟩ | ⟨a, _⟩
    · have hin : ∀ q : Nat, page ≤ q → q < page + l.length → ∃ x ∈ pairsFrom page l, x.1 = (q : Int) := fun q a b => by
        obtain ⟨x, hx⟩ : ∃ x, l[q - page]? = some x := ⟨_, List.getElem?_eq_getElem (by omega)⟩
        refine ⟨_, pairsFrom_mem l page (q - page) x hx, ?_⟩
        show (page : Int) + ((q - page : Nat) : Int) = q
        omega
      have hnot : ∀ q : Nat, (∃ x ∈ pairsFrom page l, x.1 = (q : Int)) → page ≤ q ∧ q < page + l.length := fun q ⟨x, hx, e⟩ => by
        obtain ⟨i, e1, e2⟩ := mem_pairsFrom l page x hx
        have hi : i < l.length := by
          rcases Nat.lt_or_ge i l.length with c | c
          · exact c
          · rw [List.getElem?_eq_none c] at e2; cases e2
        omega
      have hfl : (if wr then (7 : Int) else 5) ≠ 0 := by cases wr <;> decide
      have hlk : ∀ q : Nat, page ≤ q → q < page + l.length → ∃ x ∈ l, (M.attach s page l wr).1.lk r q = ((if wr then (7 : Int) else 5), x) := fun q a b => by
        obtain ⟨x, hx, e⟩ := hin q a b
        obtain ⟨q', f, e1, e2, hq', _, e4⟩ := g.pgs x hx
        have : q' = q := by omega
        subst this
        obtain ⟨i, _, e5⟩ := mem_pairsFrom l page x hx
        exact ⟨x.2, List.mem_of_getElem? e5, by rw [e4, e2]⟩
      have hoth : ∀ q : Nat, q < 256 → ¬ (page ≤ q ∧ q < page + l.length) → (M.attach s page l wr).1.lk r q = M.lk r q := fun q hq hn => g.ext.hd q hq (fun e => hn (hnot q e))
      refine ⟨T', g.ext.n.trans h.n, g.good, h.root, fun a ha => ?_, fun q a b => ?_, fun q a b c => ?_, fun q a b c => ?_⟩
      · rcases List.mem_append.1 (hl'.mem_iff.1 ha) with ha | ha
        · exact h.inr a ha
        · rw [List.mem_singleton.1 ha]
          simp only
          omega
      · by_cases d : page ≤ q ∧ q < page + l.length
        · obtain ⟨x, _, e⟩ := hlk q d.1 d.2
          rw [e]
          refine ⟨fun _ => ⟨⟨page, l.length, wr⟩, hl'.mem_iff.2 (by simp), by simp only; omega, by simp only; omega⟩, fun _ => hfl⟩
        · rw [hoth q (by omega) d, h.map q a b]
          constructor
          · rintro ⟨a, ha, h1, h2⟩
            exact ⟨a, hl'.mem_iff.2 (List.mem_append_left _ ha), h1, h2⟩
          · rintro ⟨a, ha, h1, h2⟩
            rcases List.mem_append.1 (hl'.mem_iff.1 ha) with ha | ha
            · exact ⟨a, ha, h1, h2⟩
            · rw [List.mem_singleton.1 ha] at h1 h2
              simp only at h1 h2
              omega
      · by_cases d : page ≤ q ∧ q < page + l.length
        · obtain ⟨x, hx, e⟩ := hlk q d.1 d.2
          obtain ⟨f, e1, hf⟩ := g3 x hx
          rw [e, e1]
          simp [E4, hf]
        · rw [hoth q (by omega) d] at c ⊢
          exact h.fr q a b c
      · rw [hoth q (by omega) (by omega)]
        exact h.out q a b c
    · exact absurd ok a
  · right
    obtain ⟨q, hq⟩ := Classical.not_forall.1 hc
    have h1 : page ≤ q := Classical.byContradiction fun c => hq (fun a => absurd a c)
    have h2 : q < page + l.length := Classical.byContradiction fun c => hq (fun _ b => absurd b c)
    have h3 : (M.lk r q).1 ≠ 0 := fun c => hq (fun _ _ => c)
    obtain ⟨e1, e2⟩ := h.good.attach_no s h.root page l wr (q := q) (by omega) (by omega) (by omega) h3
    exact ⟨⟨q, h1, h2, h3⟩, e2, e1⟩
theorem ov_any {l : List Att} {p c : Int} : l.any (ov p c) = true ↔ ∃ a ∈ l, p < a.pg + a.ct ∧ a.pg < p + c := by
  rw [List.any_eq_true]
  constructor
  · rintro ⟨a, ha, e⟩
    unfold ov at e
    simp only [Bool.and_eq_true, decide_eq_true_eq] at e
    exact ⟨a, ha, e.1, e.2⟩
  · rintro ⟨a, ha, e⟩
    exact ⟨a, ha, by unfold ov; simp [e.1, e.2]⟩
/-- Where Free says that there is room, there is; ahead of it, there is none. -/
theorem FrS.free {M : Mm} {s : Spc} {r : Nat} {T : Nat → Option Nat} (h : FrS M s r T) (l : List Int) (hl : GivenL l) {page : Int} (hf : FreeR s.atts l.length page) :
    128 ≤ page ∧ page ≤ 240 - l.length ∧ (∀ p : Int, 128 ≤ p → p < page → ∀ wr, (M.attach s p l wr).2 ≠ 0 ∧ (M.attach s p l wr).1 = M) ∧ ∀ wr, (M.attach s page l wr).2 = 0 := by
  have hl' := hl
  obtain ⟨g1, g2, g3⟩ := hl
  have hno : ∀ p : Int, 147 ≤ p → s.atts.any (ov p l.length) = false := fun p hp => by
    cases e : s.atts.any (ov p l.length) with
    | false => rfl
    | true =>
      obtain ⟨a, ha, e1, e2⟩ := ov_any.1 e
      have := h.inr a ha
      omega
  rcases hf with ⟨rfl, c | c⟩ | ⟨c1, c2, c3, c4, c5⟩
  · omega
  · have := c 200 (by omega) (by omega)
    rw [hno 200 (by omega)] at this
    cases this
  refine ⟨c2, c3, fun p hp hp2 wr => ?_, fun wr => ?_⟩
  · obtain ⟨a, ha, e1, e2⟩ := ov_any.1 (c5 p hp hp2)
    have hi := h.inr a ha
    obtain ⟨k, rfl⟩ := Int.eq_ofNat_of_zero_le (show 0 ≤ p by omega)
    rcases h.does k l wr hl' (by omega) (by omega) with ⟨b, _, _⟩ | ⟨_, b, d⟩
    · exfalso
      obtain ⟨q, hq⟩ := Int.eq_ofNat_of_zero_le (show 0 ≤ max (k : Int) a.pg by omega)
      have z := b q (by omega) (by omega)
      exact (h.map q (by omega) (by omega)).2 ⟨a, ha, by omega, by omega⟩ z
    · exact ⟨b, d⟩
  · obtain ⟨k, rfl⟩ := Int.eq_ofNat_of_zero_le (show 0 ≤ page by omega)
    rcases h.does k l wr hl' (by omega) (by omega) with ⟨_, b, _⟩ | ⟨⟨q, e1, e2, e3⟩, _, _⟩
    · exact b
    · exfalso
      obtain ⟨a, ha, d1, d2⟩ := (h.map q (by omega) (by omega)).1 e3
      have : s.atts.any (ov k l.length) = true := ov_any.2 ⟨a, ha, by omega, by omega⟩
      rw [c4] at this
      cases this
end Go.Proofs.Ytlbgnmcjdmdjpaa
open Go Go.Proofs
namespace Go.Proofs.Ytlbgnmcjdmdjpaa
/-- So many frames taken one behind the other. -/
def Mm.taken (n : Nat) : Nat → Mm
  | 0 => ⟨n, fun _ => 0, fun _ _ => 0⟩
  | k + 1 => (Mm.taken n k).alloc k
theorem taken_n (n : Nat) : ∀ k, (Mm.taken n k).n = n
  | 0 => rfl
  | k + 1 => taken_n n k
theorem taken_R (n : Nat) : ∀ k x, (Mm.taken n k).R x = if x < k then 1 else 0
  | 0, x => by simp [Mm.taken]
  | k + 1, x => by
    simp only [Mm.taken, Mm.alloc]
    by_cases e : x = k
    · subst e; simp
    · rw [if_neg e, taken_R n k x]
      by_cases c : x < k
      · rw [if_pos c, if_pos (by omega)]
      · rw [if_neg c, if_neg (by omega)]
theorem taken_least {n k : Nat} (h : k < n) : (Mm.taken n k).least = some k := by
  unfold Mm.least
  rw [List.find?_range_eq_some]
  refine ⟨?_, ?_, fun i hi => ?_⟩
  · simp [taken_R]
  · rw [taken_n]; simpa using h
  · simp [taken_R, hi]
theorem taken_good (n : Nat) (h : n ≤ 256) : ∀ k, k ≤ n → (Mm.taken n k).Good [] (fun x => if x < k then 1 else 0)
  | 0, _ => by
    have := good_new n h
    exact ⟨this.n2, this.tre, this.pg, fun x hx => by simpa [Mm.taken] using this.cnt x hx⟩
  | k + 1, hk => by
    have := ((taken_good n h k (by omega)).alloc (taken_least (n := n) (k := k) (by omega))).1
    refine ⟨this.n2, this.tre, this.pg, fun x hx => ?_⟩
    have c := this.cnt x hx
    rw [show (Mm.taken n (k + 1)).R x = ((Mm.taken n k).alloc k).R x from rfl, c]
    unfold plus
    congr 2
    by_cases e : x = k
    · subst e; simp
    · simp [e]
      by_cases d : x < k
      · rw [if_pos d, if_pos (by omega)]
      · rw [if_neg d, if_neg (by omega)]
def tS : ByteArray := ⟨#[116]⟩
theorem tS_items : (imgItems tS ByteArray.empty).map (·.1) = [0, 254, 255] := by decide +kernel
set_option maxRecDepth 100000 in
theorem taken_exec : ((Mm.taken 60 4).exec tS ByteArray.empty).2.2 = 0 := by
  refine exec_room (by rw [taken_n]; omega) ?_ _ _ (by decide) (by decide)
  decide +kernel
theorem frs_start : ∃ (M : Mm) (r : Nat) (T : Nat → Option Nat), (Mm.taken 60 4).exec tS ByteArray.empty = (M, (r : Int), 0) ∧ ∀ s : Spc, s.root = r → s.atts = [] → FrS M s r T := by
  rcases (taken_good 60 (by omega) 4 (by omega)).exec tS ByteArray.empty with ⟨a, k, T, hk, hB, hp, hn, hr⟩ | ⟨a, _⟩
  rotate_left
  · rw [taken_exec] at a; cases a
  obtain ⟨⟨M, r, e⟩, hX⟩ : ∃ X, (Mm.taken 60 4).exec tS ByteArray.empty = X := ⟨_, rfl⟩
  rw [hX] at a hk hB hp hn hr
  simp only at a hk hB hp hn hr
  subst a hk
  refine ⟨M, k, T, hX, fun s h1 h2 => ?_⟩
  have hz : ∀ q : Nat, 1 ≤ q → q < 254 → (M.lk k q).1 = 0 := fun q a b => hn q (by omega) (fun x hx e => by
    have : x.1 ∈ (imgItems tS ByteArray.empty).map (·.1) := List.mem_map.2 ⟨x, hx, rfl⟩
    rw [tS_items] at this
    simp at this
    omega)
  exact ⟨hB.n.trans (taken_n 60 4), hB.good, h1, (fun a ha => by rw [h2] at ha; cases ha), fun q a b => ⟨fun c => absurd (hz q (by omega) (by omega)) c, fun ⟨a, ha, _⟩ => (by rw [h2] at ha; cases ha)⟩,
    fun q a b c => absurd (hz q (by omega) (by omega)) c, fun q a b _ => hz q a b⟩
end Go.Proofs.Ytlbgnmcjdmdjpaa
open Go Go.Proofs
namespace Go.Proofs.Ytlbgnmcjdmdjpaa
/-- Each mapped page has a frame of its own among the space's pages. -/
def Inj (M : Mm) (r : Nat) : Prop := ∀ p q : Nat, p < 256 → q < 256 → (M.lk r p).1 ≠ 0 → (M.lk r q).1 ≠ 0 → (M.lk r p).2 = (M.lk r q).2 → p = q
theorem Inj.congr {M N : Mm} {r : Nat} (h : Inj M r) (hl : ∀ q, q < 256 → N.lk r q = M.lk r q) : Inj N r := fun p q hp hq => by
  rw [hl p hp, hl q hq]; exact h p q hp hq
theorem Mm.Good.inj {M : Mm} {L : Sps} {E : Nat → Nat} (h : M.Good L E) (h1 : ∀ x, M.R x ≤ 1) {a : Nat × (Nat → Option Nat)} (ha : a ∈ L) : Inj M a.1 := fun p q hp hq h0 h0' e => by
  apply Classical.byContradiction
  intro hne
  obtain ⟨fl, y, e1, hy, _⟩ := h.pg a ha p hp h0
  have e2 : (M.lk a.1 p).2 = (y : Int) := by rw [e1]
  have := own_two (M := M) (T := a.2) (x := y) hp hq hne h0 e2 h0' (by rw [← e, e2])
  have hle := own_le (M := M) (x := y) ha
  have c := h.cnt y hy
  have := h1 y
  omega
theorem Mm.Good.dataI {M : Mm} {L : Sps} {E : Nat → Nat} (h : M.Good L E) {a : Nat × (Nat → Option Nat)} (ha : a ∈ L) (hi : Inj M a.1) : M.Data a.1 a.2 := by
  obtain ⟨cu, hU⟩ := (h.tre a ha).tree
  have hw : ∀ p : Int, (M.walk a.1 p).2.2 = 0 → ∃ q fl y : Nat, p = q ∧ q < 256 ∧ M.lk a.1 q = ((fl : Int), (y : Int)) ∧ fl ≠ 0 ∧ (M.walk a.1 p).1 = y := fun p hp => by
    by_cases hr : 0 ≤ p ∧ p ≤ 255
    · obtain ⟨q, rfl⟩ := Int.eq_ofNat_of_zero_le hr.1
      have hq : q < 256 := by omega
      have := hU.walk hq
      rw [this] at hp ⊢
      by_cases e : (M.lk a.1 q).1 = 0
      · rw [if_pos e] at hp; cases hp
      · rw [if_neg e]
        obtain ⟨fl, y, e1, _, _, e2⟩ := h.pg a ha q hq e
        exact ⟨q, fl, y, rfl, hq, e1, by omega, by rw [e1]⟩
    · rw [hU.walk_out hr] at hp; cases hp
  refine ⟨fun p hp => ?_, fun p p' hp hp' hpp => ?_⟩
  · obtain ⟨q, fl, y, rfl, hq, e1, e2, e3⟩ := hw p hp
    obtain ⟨b1, b2, b3, b4⟩ := h.page ha ha (x := y) hq (by rw [e1]; simp only; omega) (by rw [e1])
    exact ⟨y, e3, b1, b2, b3, b4⟩
  · obtain ⟨q, fl, y, rfl, hq, e1, e2, e3⟩ := hw p hp
    obtain ⟨q', fl', y', rfl, hq', e1', e2', e3'⟩ := hw p' hp'
    have hy : y' = y := by omega
    subst hy
    have := hi q q' hq hq' (by rw [e1]; simp only; omega) (by rw [e1']; simp only; omega) (by rw [e1, e1'])
    rw [this]
/-- Bytes written into a space's pages. -/
theorem Mm.Good.outD {M N : Mm} {L : Sps} {E : Nat → Nat} (h : M.Good L E) {a : Nat × (Nat → Option Nat)} (ha : a ∈ L) (hd : M.Data a.1 a.2) {a0 a1 : Nat} {s : ByteArray} (ho : OutR M N a.1 a.2 a0 a1 s) (hok : ∀ i : Nat, a0 ≤ i → i < a1 → (M.walk a.1 ((i : Int) / 64)).2.2 = 0) : N.Good L E ∧ ∀ b ∈ L, ∀ q, q < 256 → N.lk b.1 q = M.lk b.1 q := by
  refine h.bytes ho.tab.n (fun x _ => by rw [ho.tab.R]) (fun x hx o => ?_)
  refine ho.keep x (fun i hi1 hi2 e => ?_) o
  obtain ⟨cu, hU⟩ := (h.tre a ha).tree
  have hz := hok i hi1 hi2
  obtain ⟨k, e1, e2, e3, e4, e5⟩ := hd.fr _ hz
  have hk : k = x := by omega
  subst hk
  obtain ⟨b, hb, hbx⟩ := hx
  by_cases hr : 0 ≤ (i : Int) / 64 ∧ (i : Int) / 64 ≤ 255
  · have hq : i / 64 < 256 := by omega
    have hw := hU.walk hq
    rw [show ((i / 64 : Nat) : Int) = (i : Int) / 64 by omega] at hw
    rw [hw] at hz e1
    by_cases e0 : (M.lk a.1 (i / 64)).1 = 0
    · rw [if_pos e0] at hz; cases hz
    · rw [if_neg e0] at e1
      have := h.page ha hb (x := k) hq e0 e1
      rcases hbx with e | ⟨j, e⟩
      · exact this.2.2.1 e
      · exact this.2.2.2 j e
  · rw [hU.walk_out hr] at hz; cases hz
theorem own_max (M : Mm) (r : Nat) (T : Nat → Option Nat) (x : Nat) : own M r T x ≤ 273 := by
  unfold own
  have a := cn_all (P := fun i => T i == some x) 16
  have b := cn_all (P := fun p => decide ((M.lk r p).1 ≠ 0 ∧ (M.lk r p).2 = (x : Int))) 256
  split <;> omega
theorem osum_max (M : Mm) (x : Nat) : ∀ L : Sps, osum M x L ≤ 273 * L.length
  | [] => Nat.zero_le _
  | a :: l => by
    have h1 := own_max M a.1 a.2 x
    have h2 := osum_max M x l
    simp only [osum, List.length_cons]; omega
theorem Mm.Good.lt1000 {M : Mm} {L : Sps} {E : Nat → Nat} (h : M.Good L E) {x : Nat} (hx : x < M.n) (hE : E x ≤ 1) (hL : L.length ≤ 3) : M.R x < 1000 := by
  have h1 := h.cnt x hx
  have h2 := osum_max M x L
  omega
theorem Mm.Good.shared_ok' {M : Mm} {r : Nat} {T : Nat → Option Nat} {L : Sps} {E : Nat → Nat} (h : M.Good ((r, T) :: L) E) {p fl fr : Nat} (hp : p < 256) (hf7 : fl ≤ 7) (hf2 : fl % 2 = 1) (h0 : (M.lk r p).1 = 0) (hroom : 1 ≤ nfree M.R M.n) (hfr : fr < M.n) (hR : 0 < M.R fr) (ht : ¬ treeFr ((r, T) :: L) fr) (hlt : M.R fr < 1000) : (M.shared r p fr fl).2 = 0 := by
  have hu : M.isUsed fr = true := Mm.isUsed_nat hfr hR
  have e : ¬ M.R fr = 1000 := by omega
  have hsh : M.share fr = (M.setR fr (M.R fr + 1), 0) := by simp [Mm.share, hu, e]
  obtain ⟨hG, hlk⟩ := h.share hfr hR ht
  obtain ⟨cu, hU⟩ := hG.tree.tree
  have hn2 : M.n ≤ 256 := h.n2
  have hk2 : ∀ n : Nat, nfree (M.setR fr (M.R fr + 1)).R n = nfree M.R n := nfree_iff (fun x => by
    show 0 < (if x = fr then M.R fr + 1 else M.R x) ↔ _
    by_cases e : x = fr
    · subst e; rw [if_pos rfl]; omega
    · rw [if_neg e])
  obtain ⟨k', hl'⟩ := (M.setR fr (M.R fr + 1)).room (by show 0 < nfree (M.setR fr (M.R fr + 1)).R M.n; rw [hk2]; omega)
  have hok := hU.map_ok hp (k := fr) (by omega) hf7 hf2 (by rw [hlk _ List.mem_cons_self p hp]; exact h0) (by rw [hl']; simp)
  unfold Mm.shared
  rw [hsh]
  simp only [Mm.maps, hok, if_true]
/-- One frame is attached where there is room. -/
theorem Mm.Good.attach1 {M : Mm} {r : Nat} {T : Nat → Option Nat} {L : Sps} {E : Nat → Nat} (h : M.Good ((r, T) :: L) E) (s : Spc) (hr : s.root = r) (page fr : Nat) (wr : Bool) (hfr : fr < M.n) (hE : E fr = 1) (hL : L.length ≤ 2) (hp : 128 ≤ page) (hp2 : page < 240) (h0 : (M.lk r page).1 = 0) (hroom : 1 ≤ nfree M.R M.n) :
    (M.attach s page [(fr : Int)] wr).2 = 0 ∧ ∃ T', (M.attach s page [(fr : Int)] wr).1.Good ((r, T') :: L) E ∧ M.Ext (M.attach s page [(fr : Int)] wr).1 r L E (· = page) ∧ (M.attach s page [(fr : Int)] wr).1.lk r page = ((if wr then 7 else 5), (fr : Int)) ∧ nfree M.R M.n ≤ nfree (M.attach s page [(fr : Int)] wr).1.R M.n + 2 := by
  have hu := h.ext_frame (N := M) hfr (by omega)
  have ok : (M.attach s page [(fr : Int)] wr).2 = 0 := by
    unfold Mm.attach
    rw [if_neg (by simp only [List.length_cons, List.length_nil]; omega), hr]
    obtain ⟨cu, hU⟩ := h.tree.tree
    rw [if_neg, if_neg]
    · rw [show (if wr then (7 : Int) else 5) = ((if wr then 7 else 5 : Nat) : Int) by cases wr <;> rfl]
      have a := h.shared_ok' (p := page) (fl := if wr then 7 else 5) (fr := fr) (by omega) (by cases wr <;> decide) (by cases wr <;> decide) h0 hroom hfr hu.1 hu.2 (h.lt1000 hfr (by omega) (by simp only [List.length_cons]; omega))
      simp only [pairsFrom, Mm.attU]
      rw [if_pos a]
    · intro hc
      obtain ⟨x, hx, e⟩ := List.any_eq_true.1 hc
      have hx1 : x = (fr : Int) := by simpa using hx
      subst hx1
      have hus : M.isUsed fr = true := Mm.isUsed_nat hfr hu.1
      have e0 : M.refs fr = 0 := by simpa using e
      rw [(Mm.refs_zero M fr).1 e0] at hus
      cases hus
    · intro hc
      obtain ⟨i, hi, e⟩ := List.any_eq_true.1 hc
      have hi := List.mem_range.1 hi
      have hi0 : i = 0 := by simpa using hi
      subst hi0
      have := hU.walk (p := page) (by omega)
      rw [show ((page : Int) + ((0 : Nat) : Int)) = ((page : Nat) : Int) by omega, this, if_pos h0] at e
      simp at e
  rcases h.attach s hr page [(fr : Int)] wr (fun x hx => ⟨fr, by simpa using hx, hfr, by omega⟩) with ⟨_, _, _, _, T', g⟩ | ⟨a, _⟩
  rotate_left
  · exact absurd ok a
  refine ⟨ok, T', g.good, g.ext.mono (fun _ e => e) (fun q ⟨x, hx, e⟩ => ?_), ?_, ?_⟩
  · have : x = ((page : Int), (fr : Int)) := by simpa [pairsFrom] using hx
    subst this
    simp only at e
    omega
  · obtain ⟨q, f, e1, e2, _, _, e3⟩ := g.pgs ((page : Int), (fr : Int)) (by simp [pairsFrom])
    simp only at e1 e3
    have : q = page := by omega
    subst this
    rw [e3, ← e2]
  · have := g.room
    rw [pairsFrom_len] at this
    exact this
theorem cn_one {P : Nat → Bool} {n p : Nat} (hp : p < n) (h : P p = true) (h' : ∀ q, q < n → q ≠ p → P q = false) : cn P n = 1 := by
  have := cn_upd (P := P) (Q := fun _ => false) n hp (fun q hq hne => h' q hq hne)
  rw [cn_zero n (fun _ _ => rfl), h] at this
  simpa using this
/-- A frame that somebody else has is counted for one page. -/
theorem Mm.Good.own_one {M : Mm} {L : Sps} {E : Nat → Nat} (h : M.Good L E) {a : Nat × (Nat → Option Nat)} (ha : a ∈ L) (hi : Inj M a.1) {x p : Nat} (hx : 0 < E x) (hp : p < 256) (h0 : (M.lk a.1 p).1 ≠ 0) (hxp : (M.lk a.1 p).2 = (x : Int)) : own M a.1 a.2 x = 1 := by
  have ht : ¬ treeFr L x := fun hc => by have := (h.tfr hc).2.2; omega
  have n1 : ¬ x = a.1 := fun e => ht ⟨a, ha, .inl e⟩
  have n2 : ∀ i, a.2 i ≠ some x := fun i e => ht ⟨a, ha, .inr ⟨i, e⟩⟩
  unfold own
  rw [if_neg n1, cn_zero 16 (fun i _ => by
    have := n2 i
    simpa using this), cn_one hp (by simp [h0, hxp]) (fun q hq hne => by
    apply decide_eq_false
    rintro ⟨a1, a2⟩
    exact hne (hi q p hq hp a1 h0 (by rw [a2, hxp])))]
def OwnPg (M : Mm) (o q : Nat) : Prop := q < 256 ∧ (M.lk o q).1 ≠ 0 ∧ bits .and .i64 (M.lk o q).1 4 = 0
theorem Mm.Good.forkUI {r o : Nat} {To : Nat → Option Nat} {L : Sps} {E : Nat → Nat} (hro : r ≠ o) (hL : (o, To) ∈ L) (hE : ∀ x, E x ≤ 1) (hlen : L.length ≤ 2) : ∀ (l : List Int) (M : Mm) (T : Nat → Option Nat) (U : List Und), M.Good ((r, T) :: L) E → l.Nodup →
    (∀ p ∈ l, ∃ q : Nat, p = q ∧ q < 256 ∧ (M.lk o q).1 ≠ 0 ∧ (M.lk r q).1 = 0) → 2 * l.length ≤ nfree M.R M.n → (Mm.forkU r o M U l).2 = 0 ∧
    (∀ q : Nat, (q : Int) ∈ l → OwnPg M o q → ∃ y : Nat, ((Mm.forkU r o M U l).1.lk r q).2 = y ∧ E y + osum M y L = 0 ∧ ∀ p, p < 256 → (M.lk r p).1 ≠ 0 → (M.lk r p).2 ≠ y) ∧
    (∀ q q' : Nat, (q : Int) ∈ l → (q' : Int) ∈ l → OwnPg M o q → OwnPg M o q' → ((Mm.forkU r o M U l).1.lk r q).2 = ((Mm.forkU r o M U l).1.lk r q').2 → q = q')
  | [], M, T, U, h, _, _, _ => ⟨rfl, (fun q hq => by cases hq), (fun q q' hq => by cases hq)⟩
  | p :: l, M, T, U, h, hnd, hl, hroom => by
    obtain ⟨q, rfl, hq, hq0, hqr⟩ := hl p List.mem_cons_self
    simp only [List.length_cons] at hroom
    obtain ⟨fl, x, hlk, hx, hf7, hf2⟩ := h.pg _ (List.mem_cons_of_mem _ hL) q hq hq0
    simp only at hlk
    have hpg := fun b hb => h.page (a := (o, To)) (b := b) (List.mem_cons_of_mem _ hL) hb (x := x) hq hq0 (by rw [hlk])
    have hxR : 0 < M.R x := (hpg _ List.mem_cons_self).2.1
    obtain ⟨cuo, hUo⟩ := (h.tre _ (List.mem_cons_of_mem _ hL)).tree
    have hwk : M.walk o q = ((x : Int), (fl : Int), 0) := by
      have := hUo.walk hq
      simp only at this
      rw [this, if_neg hq0, hlk]
    have step : (M.forkStep r o q).2 = 0 ∧ ∃ (k : Nat) (T' : Nat → Option Nat), M.Mapped (M.forkStep r o q).1 r T L E q fl k T' ∧ (bits .and .i64 fl 4 = 0 → M.R k = 0 ∧ k < M.n) := by
      unfold Mm.forkStep
      rw [hwk]
      simp only
      by_cases hs : bits .and .i64 fl 4 = 0
      · rw [if_pos hs]
        have a := h.filled_ok hq hf7 hf2 hqr (by omega) (M.rd x)
        obtain ⟨_, q', fl', k, T', e1, e2, hk, hk0, _, _, hMp, _⟩ := (h.filled q fl (M.rd x)).resolve_right (fun g => by rw [a] at g; exact absurd g.1 (by decide))
        have : q' = q := by omega
        subst this
        have : fl' = fl := by omega
        subst this
        exact ⟨a, k, T', hMp, fun _ => ⟨hk0, hk⟩⟩
      · rw [if_neg hs]
        have htr : ¬ treeFr ((r, T) :: L) x := fun ⟨b, hb, e⟩ => by
          have := hpg b hb
          rcases e with e | ⟨i, e⟩
          · exact this.2.2.1 e
          · exact this.2.2.2 i e
        have a := h.shared_ok' hq hf7 hf2 hqr (by omega) hx hxR htr (h.lt1000 hx (hE x) (by simp only [List.length_cons]; omega))
        obtain ⟨_, q', fl', T', e1, e2, _, hMp, _⟩ := (h.shared q fl x hx hxR htr).resolve_right (fun g => by rw [a] at g; exact absurd g.1 (by decide))
        have : q' = q := by omega
        subst this
        have : fl' = fl := by omega
        subst this
        exact ⟨a, x, T', hMp, fun e => absurd e hs⟩
    obtain ⟨a, k, T', hMp, hk⟩ := step
    unfold Mm.forkU
    rw [if_pos a]
    generalize (M.forkStep r o q).1 = N at *
    have h2 := hMp.room
    have hlo : ∀ y, y < 256 → N.lk o y = M.lk o y := fun y hy => hMp.ext.lk _ hL y hy
    have hnd' := List.nodup_cons.1 hnd
    have hl' : ∀ p ∈ l, ∃ y : Nat, p = y ∧ y < 256 ∧ (N.lk o y).1 ≠ 0 ∧ (N.lk r y).1 = 0 := fun p hp => by
      obtain ⟨y, rfl, hy, hy0, hyr⟩ := hl p (List.mem_cons_of_mem _ hp)
      refine ⟨y, rfl, hy, by rw [hlo y hy]; exact hy0, ?_⟩
      rw [hMp.ext.hd y hy (fun e => by subst e; exact hnd'.1 hp)]
      exact hyr
    obtain ⟨c1, c2, c3⟩ := Mm.Good.forkUI hro hL hE hlen l N T' (U ++ [Und.page q]) hMp.good hnd'.2 hl' (by rw [hMp.ext.n]; omega)
    obtain ⟨_, T2, g⟩ := (Mm.Good.forkU (M0 := N.undo r (U ++ [Und.page q]).reverse) hro hL l N T' (U ++ [Und.page q]) hMp.good (Mm.Eqv.refl _) (fun p hp => by
      obtain ⟨y, e, hy, hy0, _⟩ := hl' p hp
      exact ⟨y, e, hy, hy0⟩)).resolve_right (fun c => by rw [c1] at c; exact absurd c.1 (by decide))
    have hq' := g.ext.hd q hq hnd'.1
    have hos : ∀ y, osum N y L = osum M y L := fun y => hMp.ext.osum y
    have hown : ∀ y, OwnPg M o y → OwnPg N o y := fun y ⟨a, b, c⟩ => ⟨a, by rw [hlo y a]; exact b, by rw [hlo y a]; exact c⟩
    have hfl0 : (N.lk r q).1 ≠ 0 := by rw [hMp.lk]; simp only; omega
    have tail : ∀ y : Nat, (y : Int) ∈ l → OwnPg M o y → ∃ z : Nat, ((Mm.forkU r o N (U ++ [Und.page q]) l).1.lk r y).2 = z ∧ E z + osum M z L = 0 ∧ z ≠ k ∧ ∀ p, p < 256 → (M.lk r p).1 ≠ 0 → (M.lk r p).2 ≠ z := fun y hy ho => by
      obtain ⟨z, e1, e2, e3⟩ := c2 y hy (hown y ho)
      refine ⟨z, e1, by rw [← hos]; exact e2, fun e => e3 q hq hfl0 (by rw [hMp.lk, e]), fun p hp h0 => ?_⟩
      have hpq : p ≠ q := by rintro rfl; exact h0 hqr
      have := e3 p hp (by rw [hMp.ext.hd p hp hpq]; exact h0)
      rw [hMp.ext.hd p hp hpq] at this
      exact this
    refine ⟨c1, fun y hy ho => ?_, fun y y' hy hy' ho ho' e => ?_⟩
    · rcases List.mem_cons.1 hy with e | hy
      · have : y = q := by omega
        subst this
        have hb : bits .and .i64 fl 4 = 0 := by have := ho.2.2; rw [hlk] at this; exact this
        obtain ⟨k0, kn⟩ := hk hb
        obtain ⟨_, f2, f3⟩ := h.free0 kn (by omega)
        simp only [osum] at f3
        refine ⟨k, by rw [hq', hMp.lk], by omega, fun p hp h0 e => ?_⟩
        have := own_page (T := T) hp h0 e
        omega
      · obtain ⟨z, e1, e2, _, e3⟩ := tail y hy ho
        exact ⟨z, e1, e2, e3⟩
    · rcases List.mem_cons.1 hy with d | hz <;> rcases List.mem_cons.1 hy' with d' | hz'
      · omega
      · have : y = q := by omega
        subst this
        obtain ⟨z, e1, _, e3, _⟩ := tail y' hz' ho'
        rw [hq', hMp.lk, e1] at e
        simp only at e
        omega
      · have : y' = q := by omega
        subst this
        obtain ⟨z, e1, _, e3, _⟩ := tail y hz ho
        rw [hq', hMp.lk, e1] at e
        simp only at e
        omega
      · exact c3 y y' hz hz' (hown y ho) (hown y' ho') e
/-- A child of a space that has shared pages is forked where there is room. -/
theorem Mm.Good.forkI {M : Mm} {o : Nat} {To : Nat → Option Nat} {L : Sps} {E : Nat → Nat} (h : M.Good L E) (hL : (o, To) ∈ L) (hE : ∀ x, E x ≤ 1) (hlen : L.length ≤ 2) (hi : Inj M o) (hsh : ∀ q, q < 256 → (M.lk o q).1 ≠ 0 → bits .and .i64 (M.lk o q).1 4 ≠ 0 → 0 < E (M.lk o q).2.toNat) (hroom : 1 + 2 * (M.pgs o).length ≤ nfree M.R M.n) :
    (M.fork o).2.2 = 0 ∧ ∀ k : Nat, (M.fork o).2.1 = k → Inj (M.fork o).1 k := by
  obtain ⟨k, hl⟩ := M.room (by omega)
  obtain ⟨hk, hz, -⟩ := Mm.least_spec hl
  obtain ⟨g1, g2, g3⟩ := h.begun hl
  have hko : k ≠ o := by intro e; subst e; have := (h.tre _ hL).rR; simp only at this; omega
  have hlo : ∀ q, q < 256 → (M.alloc k).lk o q = M.lk o q := fun q hq => g2 _ hL q hq
  have hps : (M.alloc k).pgs o = M.pgs o := by
    unfold Mm.pgs
    rw [Mm.pages_eq, Mm.pages_eq]
    exact congrArg _ (Mm.pgL_congr (M := M.alloc k) (M' := M) 256 (fun p hp => by rw [hlo p hp]))
  have hX : M.fork o = ((Mm.forkU k o (M.alloc k) [.root] (M.pgs o)).1, (k : Int), (Mm.forkU k o (M.alloc k) [.root] (M.pgs o)).2) := by unfold Mm.fork; rw [hl]; simp only; rw [hps]
  have hm : ∀ q : Nat, (q : Int) ∈ M.pgs o ↔ q < 256 ∧ (M.lk o q).1 ≠ 0 := fun q => Mm.mem_pgs
  have hm2 : ∀ p ∈ M.pgs o, ∃ q : Nat, p = q := fun p hp => by
    unfold Mm.pgs at hp
    obtain ⟨q, _, e⟩ := List.mem_map.1 hp
    exact ⟨q, e.symm⟩
  obtain ⟨c1, c2, c3⟩ := Mm.Good.forkUI hko hL hE hlen (M.pgs o) (M.alloc k) _ [.root] g1 (pgs_nodup M o) (fun p hp => by
    obtain ⟨q, rfl⟩ := hm2 p hp
    obtain ⟨a, b⟩ := (hm q).1 hp
    exact ⟨q, rfl, a, by rw [hlo q a]; exact b, g3 q a⟩) (by
    have := nfree_take (R := M.R) (R' := (M.alloc k).R) hk (by omega) (by simp [Mm.alloc]) (fun i hi => by simp [Mm.alloc, hi])
    show 2 * (M.pgs o).length ≤ nfree (M.alloc k).R M.n
    omega)
  generalize hY : Mm.forkU k o (M.alloc k) [.root] (M.pgs o) = Y at hX c1 c2 c3
  have ok : (M.fork o).2.2 = 0 := by rw [hX]; exact c1
  have hFK := (h.fork hL).resolve_right (fun g => by rw [ok] at g; exact absurd g.1 (by decide))
  rw [hX] at hFK ok ⊢
  simp only at hFK ok ⊢
  refine ⟨ok, fun k' hk' => ?_⟩
  obtain ⟨_, k2, T', e1, _, _, _, _, _, _, _, hC, _⟩ := hFK
  have : k2 = k := by omega
  subst this
  have : k' = k2 := by omega
  subst this
  have hpos : ∀ p, p < 256 → (Y.1.lk k' p).1 ≠ 0 → (M.lk o p).1 ≠ 0 := fun p hp h0 e => h0 ((hC p hp).none e)
  have hown : ∀ p, p < 256 → (M.lk o p).1 ≠ 0 → bits .and .i64 (M.lk o p).1 4 = 0 → OwnPg (M.alloc k') o p := fun p a b c => ⟨a, by rw [hlo p a]; exact b, by rw [hlo p a]; exact c⟩
  have hshd : ∀ p, p < 256 → (M.lk o p).1 ≠ 0 → bits .and .i64 (M.lk o p).1 4 ≠ 0 → Y.1.lk k' p = M.lk o p ∧ 0 < E (Y.1.lk k' p).2.toNat := fun p hp h0 hb => by
    obtain ⟨fl, x, e, _, _, hf⟩ := h.pg _ hL p hp h0
    simp only at e
    have e2 := (hC p hp).shared fl x e (by omega) (by rw [e] at hb; exact hb)
    rw [e2, e]
    refine ⟨rfl, ?_⟩
    have := hsh p hp h0 hb
    rw [e] at this
    exact this
  intro p q hp hq h0 h0' e
  have hp0 := hpos p hp h0
  have hq0 := hpos q hq h0'
  by_cases bp : bits .and .i64 (M.lk o p).1 4 = 0
  · by_cases bq : bits .and .i64 (M.lk o q).1 4 = 0
    · exact c3 p q ((hm p).2 ⟨hp, hp0⟩) ((hm q).2 ⟨hq, hq0⟩) (hown p hp hp0 bp) (hown q hq hq0 bq) e
    · obtain ⟨y, y1, y2, _⟩ := c2 p ((hm p).2 ⟨hp, hp0⟩) (hown p hp hp0 bp)
      have := (hshd q hq hq0 bq).2
      rw [← e, y1, Int.toNat_natCast] at this
      omega
  · by_cases bq : bits .and .i64 (M.lk o q).1 4 = 0
    · obtain ⟨y, y1, y2, _⟩ := c2 q ((hm q).2 ⟨hq, hq0⟩) (hown q hq hq0 bq)
      have := (hshd p hp hp0 bp).2
      rw [e, y1, Int.toNat_natCast] at this
      omega
    · rw [(hshd p hp hp0 bp).1, (hshd q hq hq0 bq).1] at e
      exact hi p q hp hq hp0 hq0 e
end Go.Proofs.Ytlbgnmcjdmdjpaa
open Go Go.Proofs
namespace Go.Proofs.Ytlbgnmcjdmdjpaa
def E1 (x : Nat) : Nat := if x < 1 then 1 else 0
def dS : ByteArray := ⟨#[100]⟩
theorem tSe_items : (imgItems tS ByteArray.empty).map (fun x => (x.1, x.2.1)) = [(0, 1), (254, 3), (255, 3)] := by decide +kernel
theorem tSd_items : (imgItems tS dS).map (fun x => (x.1, x.2.1)) = [(0, 1), (1, 3), (254, 3), (255, 3)] := by decide +kernel
/-- Two spaces beside a frame that somebody has. -/
structure ShA (M : Mm) (ra rb : Nat) (Ta Tb : Nat → Option Nat) : Prop where
  n : M.n = 60
  good : M.Good [(rb, Tb), (ra, Ta)] E1
  le1 : ∀ x, M.R x ≤ 1
  la : ∀ q : Nat, 2 ≤ q → q < 254 → (M.lk ra q).1 = 0
  lb : ∀ q : Nat, 2 ≤ q → q < 254 → (M.lk rb q).1 = 0
  fa : ∀ q : Nat, q < 256 → bits .and .i64 (M.lk ra q).1 4 = 0
  room : 43 ≤ nfree M.R M.n
theorem shares_start : ∃ (M1 : Mm) (ra : Nat) (M2 : Mm) (rb : Nat) (Ta Tb : Nat → Option Nat), (Mm.taken 60 1).exec tS ByteArray.empty = (M1, (ra : Int), 0) ∧ M1.exec tS dS = (M2, (rb : Int), 0) ∧ ShA M2 ra rb Ta Tb := by
  have g0 : (Mm.taken 60 1).Good [] E1 := taken_good 60 (by omega) 1 (by omega)
  have n0 : nfree (Mm.taken 60 1).R 60 = 59 := by decide +kernel
  have l0 : ∀ x, (Mm.taken 60 1).R x ≤ 1 := fun x => by rw [taken_R]; split <;> omega
  have ok1 := exec_room (M := Mm.taken 60 1) (by rw [taken_n]; omega) (by rw [taken_n, n0]; omega) tS ByteArray.empty (by decide) (by decide)
  obtain ⟨_, ra, Ta, hk, hB, hp, hn, hr⟩ := (g0.exec tS ByteArray.empty).resolve_right (fun g => by rw [ok1] at g; exact absurd g.1 (by decide))
  obtain ⟨⟨M1, r1, e1⟩, hX⟩ : ∃ X, (Mm.taken 60 1).exec tS ByteArray.empty = X := ⟨_, rfl⟩
  rw [hX] at ok1 hk hB hp hn hr
  simp only at ok1 hk hB hp hn hr
  subst ok1 hk
  have len1 : (imgItems tS ByteArray.empty).length = 3 := by have := congrArg List.length tSe_items; simpa using this
  have len2 : (imgItems tS dS).length = 4 := by have := congrArg List.length tSd_items; simpa using this
  rw [taken_n, n0, len1] at hr
  have n1 : M1.n = 60 := hB.n.trans (taken_n 60 1)
  have ok2 := exec_room (M := M1) (by omega) (by rw [n1]; omega) tS dS (by decide) (by decide)
  obtain ⟨_, rb, Tb, hk2, hB2, hp2, hn2, hr2⟩ := (hB.good.exec tS dS).resolve_right (fun g => by rw [ok2] at g; exact absurd g.1 (by decide))
  obtain ⟨⟨M2, r2, e2⟩, hX2⟩ : ∃ X, M1.exec tS dS = X := ⟨_, rfl⟩
  rw [hX2] at ok2 hk2 hB2 hp2 hn2 hr2
  simp only at ok2 hk2 hB2 hp2 hn2 hr2
  subst ok2 hk2
  rw [n1, len2] at hr2
  have hn2' : M2.n = 60 := hB2.n.trans n1
  have la : ∀ q : Nat, 2 ≤ q → q < 254 → (M1.lk ra q).1 = 0 := fun q a b => hn q (by omega) (fun x hx e => by
    have : (x.1, x.2.1) ∈ (imgItems tS ByteArray.empty).map (fun x => (x.1, x.2.1)) := List.mem_map.2 ⟨x, hx, rfl⟩
    rw [tSe_items] at this
    simp at this
    omega)
  have hlk : ∀ q, q < 256 → M2.lk ra q = M1.lk ra q := fun q hq => hB2.lk (ra, Ta) List.mem_cons_self q hq
  refine ⟨M1, ra, M2, rb, Ta, Tb, hX, hX2, hn2', hB2.good, hB2.le1 (hB.le1 l0), fun q a b => by rw [hlk q (by omega)]; exact la q a b, fun q a b => hn2 q (by omega) (fun x hx e => ?_), fun q hq => ?_, by rw [hn2']; omega⟩
  · have : (x.1, x.2.1) ∈ (imgItems tS dS).map (fun x => (x.1, x.2.1)) := List.mem_map.2 ⟨x, hx, rfl⟩
    rw [tSd_items] at this
    simp at this
    omega
  · rw [hlk q hq]
    by_cases h : ∃ x ∈ imgItems tS ByteArray.empty, x.1 = (q : Int)
    · obtain ⟨x, hx, e⟩ := h
      obtain ⟨q', fl, y, f1, f2, f3, f4, f5, f6⟩ := hp x hx
      have : q' = q := by omega
      subst this
      have hm : (x.1, x.2.1) ∈ (imgItems tS ByteArray.empty).map (fun x => (x.1, x.2.1)) := List.mem_map.2 ⟨x, hx, rfl⟩
      rw [tSe_items] at hm
      rw [f4]
      simp only
      rw [← f2]
      simp only [List.mem_cons, Prod.mk.injEq, List.not_mem_nil, or_false] at hm
      rcases hm with ⟨_, h⟩ | ⟨_, h⟩ | ⟨_, h⟩ <;> rw [h] <;> decide
    · rw [hn q hq (fun x hx e => h ⟨x, hx, e⟩)]
      decide
/-- Three spaces that have the frame 0. -/
structure ShZ (M : Mm) (ra rb rc : Nat) (Ta Tb Tc : Nat → Option Nat) (page : Nat) (wr : Bool) : Prop where
  n : M.n = 60
  good : M.Good [(rc, Tc), (ra, Ta), (rb, Tb)] E1
  ia : Inj M ra
  ib : Inj M rb
  ic : Inj M rc
  la : M.lk ra page = (7, 0)
  lb : M.lk rb 128 = ((if wr then 7 else 5), 0)
  lc : M.lk rc page = (7, 0)
theorem E1_le (x : Nat) : E1 x ≤ 1 := by unfold E1; split <;> omega
theorem shares_mid {M : Mm} {ra rb : Nat} {Ta Tb : Nat → Option Nat} (h : ShA M ra rb Ta Tb) (sa sb : Spc) (h1 : sa.root = ra) (h2 : sb.root = rb) (page : Nat) (hp : 128 ≤ page) (hp2 : page < 240) (wr : Bool) :
    ∃ (M3 M4 M5 : Mm) (rc : Nat) (Ta Tb Tc : Nat → Option Nat), M.attach sa page [0] true = (M3, 0) ∧ M3.attach sb 128 [0] wr = (M4, 0) ∧ M4.fork ra = (M5, (rc : Int), 0) ∧ M3.isUsed ra = true ∧ M4.isUsed ra = true ∧ ShZ M5 ra rb rc Ta Tb Tc page wr := by
  have hiA := h.good.inj h.le1 (a := (ra, Ta)) (by simp)
  have hiB := h.good.inj h.le1 (a := (rb, Tb)) (by simp)
  simp only at hiA hiB
  have n60 := h.n
  have fr0 : ∀ (b : Nat × (Nat → Option Nat)), b ∈ [(rb, Tb), (ra, Ta)] → ∀ q, q < 256 → (M.lk b.1 q).1 ≠ 0 → (M.lk b.1 q).2 ≠ 0 := fun b hb q hq h0 e => by
    have o := own_page (M := M) (r := b.1) (T := b.2) (x := 0) hq h0 e
    have l := own_le (M := M) (x := 0) hb
    have c := h.good.cnt 0 (by omega)
    have := h.le1 0
    have e0 : E1 0 = 1 := rfl
    omega
  have g1 : M.Good [(ra, Ta), (rb, Tb)] E1 := h.good.perm (List.Perm.swap _ _ _)
  obtain ⟨ok3, Ta3, g3, x3, k3, r3⟩ := g1.attach1 sa h1 page 0 true (by omega) rfl (by simp) hp hp2 (h.la page (by omega) (by omega)) (by have := h.room; omega)
  rw [show ((0 : Nat) : Int) = 0 from rfl] at ok3 g3 x3 k3 r3
  obtain ⟨⟨M3, e3⟩, hX3⟩ : ∃ X, M.attach sa page [0] true = X := ⟨_, rfl⟩
  rw [hX3] at ok3 g3 x3 k3 r3
  simp only at ok3 g3 x3 k3 r3
  subst ok3
  have n3 : M3.n = 60 := x3.n.trans n60
  have lb3 : ∀ q, q < 256 → M3.lk rb q = M.lk rb q := fun q hq => x3.lk (rb, Tb) (by simp) q hq
  have g3' : M3.Good [(rb, Tb), (ra, Ta3)] E1 := g3.perm (List.Perm.swap _ _ _)
  obtain ⟨ok4, Tb4, g4, x4, k4, r4⟩ := g3'.attach1 sb h2 128 0 wr (by omega) rfl (by simp) (by omega) (by omega) (by rw [lb3 _ (by omega)]; exact h.lb 128 (by omega) (by omega)) (by have := h.room; rw [n60] at this r3; rw [n3]; omega)
  rw [show ((0 : Nat) : Int) = 0 from rfl, show ((128 : Nat) : Int) = 128 from rfl] at ok4 g4 x4 k4 r4
  obtain ⟨⟨M4, e4⟩, hX4⟩ : ∃ X, M3.attach sb 128 [0] wr = X := ⟨_, rfl⟩
  rw [hX4] at ok4 g4 x4 k4 r4
  simp only at ok4 g4 x4 k4 r4
  subst ok4
  have n4 : M4.n = 60 := x4.n.trans n3
  have la4 : ∀ q, q < 256 → M4.lk ra q = M3.lk ra q := fun q hq => x4.lk (ra, Ta3) (by simp) q hq
  have ia3 : Inj M3 ra := fun p q hp' hq' h0 h0' e => by
    by_cases c1 : p = page
    · by_cases c2 : q = page
      · omega
      · rw [c1, k3, x3.hd q hq' c2] at e
        rw [x3.hd q hq' c2] at h0'
        exact absurd e.symm (fr0 (ra, Ta) (by simp) q hq' h0')
    · by_cases c2 : q = page
      · rw [c2, k3, x3.hd p hp' c1] at e
        rw [x3.hd p hp' c1] at h0
        exact absurd e (fr0 (ra, Ta) (by simp) p hp' h0)
      · rw [x3.hd p hp' c1] at h0 e
        rw [x3.hd q hq' c2] at h0' e
        exact hiA p q hp' hq' h0 h0' e
  have ia4 := ia3.congr la4
  have ib4 : Inj M4 rb := fun p q hp' hq' h0 h0' e => by
    by_cases c1 : p = 128
    · by_cases c2 : q = 128
      · omega
      · rw [c1, k4, x4.hd q hq' c2, lb3 q hq'] at e
        rw [x4.hd q hq' c2, lb3 q hq'] at h0'
        exact absurd e.symm (fr0 (rb, Tb) (by simp) q hq' h0')
    · by_cases c2 : q = 128
      · rw [c2, k4, x4.hd p hp' c1, lb3 p hp'] at e
        rw [x4.hd p hp' c1, lb3 p hp'] at h0
        exact absurd e (fr0 (rb, Tb) (by simp) p hp' h0)
      · rw [x4.hd p hp' c1, lb3 p hp'] at h0 e
        rw [x4.hd q hq' c2, lb3 q hq'] at h0' e
        exact hiB p q hp' hq' h0 h0' e
  have hA : (ra, Ta3) ∈ [(rb, Tb4), (ra, Ta3)] := by simp
  have hroom : 1 + 2 * (M4.pgs ra).length ≤ nfree M4.R M4.n := by
    have a := cn_le (P := fun p => decide ((M4.lk ra p).1 ≠ 0 ∧ ¬ p = page)) (a := 2) (b := 254) 256 (fun q hq e => by
      obtain ⟨e1, e2⟩ := of_decide_eq_true e
      rw [la4 q hq, x3.hd q hq e2] at e1
      by_cases c : q < 2 ∨ 254 ≤ q
      · exact c
      · exact absurd (h.la q (by omega) (by omega)) e1)
    have b := cn_upd (P := fun p => decide ((M4.lk ra p).1 ≠ 0)) (Q := fun p => decide ((M4.lk ra p).1 ≠ 0 ∧ ¬ p = page)) (p := page) 256 (by omega) (fun q hq hne => by simp [hne])
    rw [pgs_len]
    have := h.room
    rw [n60] at this r3
    rw [n3] at r4
    rw [n4]
    split at b <;> split at b <;> omega
  have hsh : ∀ q, q < 256 → (M4.lk ra q).1 ≠ 0 → bits .and .i64 (M4.lk ra q).1 4 ≠ 0 → 0 < E1 (M4.lk ra q).2.toNat := fun q hq h0 hb => by
    by_cases c : q = page
    · rw [c, la4 page (by omega), k3]; decide
    · rw [la4 q hq, x3.hd q hq c] at hb
      exact absurd (h.fa q hq) hb
  obtain ⟨ok5, hI5⟩ := g4.forkI hA E1_le (by simp) ia4 hsh hroom
  obtain ⟨_, rc, Tc, e5, _, _, _, g5, n5, l5, _, hC, _⟩ := (g4.fork hA).resolve_right (fun g => by rw [ok5] at g; exact absurd g.1 (by decide))
  have ic5 := hI5 rc e5
  obtain ⟨⟨M5, q5, f5⟩, hX5⟩ : ∃ X, M4.fork ra = X := ⟨_, rfl⟩
  rw [hX5] at ok5 e5 g5 n5 l5 hC ic5
  simp only at ok5 e5 g5 n5 l5 hC ic5
  subst ok5 e5
  have u3 : M3.isUsed ra = true := by
    have := g3.tree
    exact Mm.isUsed_nat this.rn (by rw [this.rR]; decide)
  have u4 : M4.isUsed ra = true := by
    have := g4.tre _ hA
    exact Mm.isUsed_nat this.rn (by rw [this.rR]; decide)
  have k3' : M4.lk ra page = (((7 : Nat) : Int), ((0 : Nat) : Int)) := by rw [la4 page (by omega), k3]; rfl
  refine ⟨M3, M4, M5, rc, Ta3, Tb4, Tc, hX3, hX4, hX5, u3, u4, n5.trans n4, g5.perm ?_, ia4.congr (fun q hq => l5 (ra, Ta3) (by simp) q hq), ib4.congr (fun q hq => l5 (rb, Tb4) (by simp) q hq), ic5, ?_, ?_, ?_⟩
  · exact (List.Perm.swap _ _ _).cons _
  · rw [l5 (ra, Ta3) (by simp) page (by omega)]; exact k3'
  · rw [l5 (rb, Tb4) (by simp) 128 (by omega)]; exact k4
  · exact (hC page (by omega)).shared 7 0 k3' (by decide) (by decide)
theorem ShZ.dc {M : Mm} {ra rb rc : Nat} {Ta Tb Tc : Nat → Option Nat} {page : Nat} {wr : Bool} (h : ShZ M ra rb rc Ta Tb Tc page wr) : M.Data rc Tc := h.good.dataI (a := (rc, Tc)) (by simp) h.ic
theorem ShZ.da {M : Mm} {ra rb rc : Nat} {Ta Tb Tc : Nat → Option Nat} {page : Nat} {wr : Bool} (h : ShZ M ra rb rc Ta Tb Tc page wr) : M.Data ra Ta := h.good.dataI (a := (ra, Ta)) (by simp) h.ia
theorem ShZ.db {M : Mm} {ra rb rc : Nat} {Ta Tb Tc : Nat → Option Nat} {page : Nat} {wr : Bool} (h : ShZ M ra rb rc Ta Tb Tc page wr) : M.Data rb Tb := h.good.dataI (a := (rb, Tb)) (by simp) h.ib
theorem ShZ.refs {M N : Mm} {ra rb rc : Nat} {Ta Tb Tc : Nat → Option Nat} {page : Nat} {wr : Bool} (h : ShZ M ra rb rc Ta Tb Tc page wr) (hp2 : page < 240) (hn : N.n = M.n) (hR : N.R = M.R) : N.refs 0 = 4 := by
  have c := h.good.cnt 0 (by rw [h.n]; omega)
  have o1 := h.good.own_one (a := (rc, Tc)) (by simp) h.ic (x := 0) (p := page) (by decide) (by omega) (by show (M.lk rc page).1 ≠ 0; rw [h.lc]; decide) (by show (M.lk rc page).2 = _; rw [h.lc]; rfl)
  have o2 := h.good.own_one (a := (ra, Ta)) (by simp) h.ia (x := 0) (p := page) (by decide) (by omega) (by show (M.lk ra page).1 ≠ 0; rw [h.la]; decide) (by show (M.lk ra page).2 = _; rw [h.la]; rfl)
  have o3 := h.good.own_one (a := (rb, Tb)) (by simp) h.ib (x := 0) (p := 128) (by decide) (by omega) (by show (M.lk rb 128).1 ≠ 0; rw [h.lb]; cases wr <;> decide) (by show (M.lk rb 128).2 = _; rw [h.lb]; rfl)
  simp only at o1 o2 o3
  simp only [osum, o1, o2, o3] at c
  have e0 : E1 0 = 1 := rfl
  rw [e0] at c
  have c4 : M.R 0 = 4 := by rw [c]; rfl
  have hu : N.isUsed 0 = true := Mm.isUsed_nat (k := 0) (by rw [hn, h.n]; omega) (by rw [hR, c4]; decide)
  unfold Mm.refs
  rw [hu, if_pos rfl, hR]
  exact c4
/-- Bytes written through the child. -/
theorem ShZ.out {M N : Mm} {ra rb rc : Nat} {Ta Tb Tc : Nat → Option Nat} {page : Nat} {wr : Bool} (h : ShZ M ra rb rc Ta Tb Tc page wr) (hp2 : page < 240) {s : ByteArray} (hs : s.size ≤ 60) {p : Int} (c1 : ChkR M rc (64 * (page : Int)) s.size true p)
    (c2 : (p ≠ 0 ∧ N = M) ∨ (p = 0 ∧ OutR M N rc Tc (64 * page) (64 * page + s.size) s)) : p = 0 ∧ ShZ N ra rb rc Ta Tb Tc page wr ∧ ∀ i, i < s.size → s.data.toList[i]? = some (N.B 0 i) := by
  have hC : (rc, Tc) ∈ [(rc, Tc), (ra, Ta), (rb, Tb)] := by simp
  have hT := h.good.tre _ hC
  have hu : M.isUsed rc = true := Mm.isUsed_nat hT.rn (by rw [hT.rR]; decide)
  have hpg : M.pgc rc page = some (((7 : Nat) : Int), M.B 0) := h.good.pgc hC (q := page) (by omega) (by show M.lk rc page = _; rw [h.lc]; rfl) (by decide)
  have hp0 : p = 0 := chk_pgc hu (64 * page) s.size true (by omega) (by omega) (fun i hi => ⟨_, M.B 0, by rw [show ((64 * page + i : Nat) : Int) / 64 = (page : Int) by omega]; exact hpg, fun _ => by decide⟩) (by rw [show ((64 * page : Nat) : Int) = 64 * (page : Int) by omega]; exact c1)
  subst hp0
  have ho := (c2.resolve_left (fun h => h.1 rfl)).2
  have hok : ∀ t : Nat, 64 * page ≤ t → t < 64 * page + s.size → (M.walk rc ((t : Int) / 64)).2.2 = 0 := fun t t1 t2 => (Mm.vb_pgc (i := t) (by rw [show (t : Int) / 64 = (page : Int) by omega]; exact hpg)).1
  obtain ⟨hN, hlk⟩ := h.good.outD hC h.dc ho hok
  have hZ : ShZ N ra rb rc Ta Tb Tc page wr := ⟨ho.tab.n.trans h.n, hN, h.ia.congr (fun q hq => hlk (ra, Ta) (by simp) q hq), h.ib.congr (fun q hq => hlk (rb, Tb) (by simp) q hq), h.ic.congr (fun q hq => hlk _ hC q hq), (hlk (ra, Ta) (by simp) page (by omega)).trans h.la, (hlk (rb, Tb) (by simp) 128 (by omega)).trans h.lb, (hlk _ hC page (by omega)).trans h.lc⟩
  refine ⟨rfl, hZ, fun i hi => ?_⟩
  have hpg2 : N.pgc rc page = some (((7 : Nat) : Int), N.B 0) := hN.pgc hC (q := page) (by omega) (by show N.lk rc page = _; rw [hZ.lc]; rfl) (by decide)
  have hv := ho.vb (64 * page + i) (hok _ (by omega) (by omega))
  rw [if_pos (by omega)] at hv
  have hl : s.data.toList.length = s.size := by simp
  have hv2 := (Mm.vb_pgc (M := N) (r := rc) (i := 64 * page + i) (by rw [show ((64 * page + i : Nat) : Int) / 64 = (page : Int) by omega]; exact hpg2)).2.2
  rw [show (64 * page + i) % 64 = i by omega] at hv2
  rw [← hv2, hv, show 64 * page + i - 64 * page = i by omega, List.getElem?_eq_getElem (by omega)]
  rfl
/-- It is read by whoever has it; and who may not write does not. -/
theorem ShZ.law {N : Mm} {ra rb rc : Nat} {Ta Tb Tc : Nat → Option Nat} {page : Nat} {wr : Bool} (h : ShZ N ra rb rc Ta Tb Tc page wr) (hp2 : page < 240) {s : ByteArray} (hs : s.size ≤ 60) (hB : ∀ i, i < s.size → s.data.toList[i]? = some (N.B 0 i)) {q r v : Int} {x y : ByteArray}
    (c3 : InR N ra (64 * (page : Int)) s.size q x) (c4 : InR N rb 8192 s.size r y) (c5 : ChkR N rb 8192 1 true v) : q = 0 ∧ x = s ∧ r = 0 ∧ y = s ∧ (v = 0 ↔ wr = true) := by
  have hA : (ra, Ta) ∈ [(rc, Tc), (ra, Ta), (rb, Tb)] := by simp
  have hBm : (rb, Tb) ∈ [(rc, Tc), (ra, Ta), (rb, Tb)] := by simp
  have hTa := h.good.tre _ hA
  have hTb := h.good.tre _ hBm
  have hua : N.isUsed ra = true := Mm.isUsed_nat hTa.rn (by rw [hTa.rR]; decide)
  have hub : N.isUsed rb = true := Mm.isUsed_nat hTb.rn (by rw [hTb.rR]; decide)
  have pa : N.pgc ra page = some (((7 : Nat) : Int), N.B 0) := h.good.pgc hA (q := page) (by omega) (by show N.lk ra page = _; rw [h.la]; rfl) (by decide)
  have pb : N.pgc rb 128 = some (((if wr then 7 else 5 : Nat) : Int), N.B 0) := h.good.pgc hBm (q := 128) (by omega) (by show N.lk rb 128 = _; rw [h.lb]; cases wr <;> rfl) (by cases wr <;> decide)
  obtain ⟨q0, xs⟩ := inr_pgc hua (64 * page) s (by omega) (by omega) (fun i hi => ⟨_, N.B 0, by rw [show ((64 * page + i : Nat) : Int) / 64 = (page : Int) by omega]; exact pa, by rw [show (64 * page + i) % 64 = i by omega]; exact hB i hi⟩) (by rw [show ((64 * page : Nat) : Int) = 64 * (page : Int) by omega]; exact c3)
  obtain ⟨r0, ys⟩ := inr_pgc hub 8192 s (by omega) (by omega) (fun i hi => ⟨_, N.B 0, by rw [show ((8192 + i : Nat) : Int) / 64 = 128 by omega]; exact pb, by rw [show (8192 + i) % 64 = i by omega]; exact hB i hi⟩) c4
  refine ⟨q0, xs, r0, ys, ?_⟩
  cases wr with
  | true =>
    have := chk_pgc hub 8192 1 true (by omega) (by omega) (fun i hi => ⟨_, N.B 0, by rw [show ((8192 + i : Nat) : Int) / 64 = 128 by omega]; exact pb, fun _ => by decide⟩) c5
    simp [this]
  | false =>
    have := chk_bad hub 8192 1 (by omega) (by omega) ⟨0, by omega, .inr ⟨_, N.B 0, by rw [show ((8192 + 0 : Nat) : Int) / 64 = 128 by omega]; exact pb, by decide⟩⟩ c5
    rw [this]; simp
end Go.Proofs.Ytlbgnmcjdmdjpaa
namespace Go.Proofs.Ytlbgnmcjdmdjpaa
open Go.RowKit Go.Shelf
attribute [local go_sem] Oper.semAt_some
def givenF : List Int := [0, 1, 2, 3]
theorem givenL_take (n : Nat) (h1 : 1 ≤ n) (h4 : n ≤ 4) : GivenL (givenF.take n) ∧ (givenF.take n).length = n := by
  have hl : (givenF.take n).length = n := by rw [List.length_take]; show min n 4 = n; omega
  refine ⟨⟨by omega, by omega, fun x hx => ?_⟩, hl⟩
  have := List.mem_of_mem_take hx
  simp [givenF] at this
  rcases this with rfl | rfl | rfl | rfl
  · exact ⟨0, rfl, by omega⟩
  · exact ⟨1, rfl, by omega⟩
  · exact ⟨2, rfl, by omega⟩
  · exact ⟨3, rfl, by omega⟩
theorem given_any (w : World) (n : Nat) (h4 : n < 4) : Calls Try.prog 52 #[.int .i64 n] w fun e w' => e = .returned (.slice (some ⟨w.heap.size, 0, none⟩) (n + 1) 4) ∧ IntsO w' (some ⟨w.heap.size, 0, none⟩) (givenF.take (n + 1)) ∧ Same (fun _ => False) w w' := by
  have key : IntsO (w.alloc (.cells #[.int .i64 0, .int .i64 1, .int .i64 2, .int .i64 3] 3)) (some ⟨w.heap.size, 0, none⟩) (givenF.take (n + 1)) := by
    refine .inr ⟨_, rfl, by simp, ⟨4, by rw [shape_alloc, if_pos rfl]; rfl⟩, fun i x hx => ?_⟩
    rw [World.cell?_alloc_at _ _ _ _ rfl]
    have hx2 : givenF[i]? = some x := by
      rw [List.getElem?_take] at hx
      split at hx
      · exact hx
      · cases hx
    unfold givenF at hx2
    rcases i with _ | _ | _ | _ | i
    all_goals first | (cases hx2; rfl) | (simp at hx2)
  have K := Lib.hid key
  have b0 : bits BinOp.and IntKind.i64 0 3 = 0 := by decide +kernel
  have b1 : bits BinOp.and IntKind.i64 1 3 = 1 := by decide +kernel
  have b2 : bits BinOp.and IntKind.i64 2 3 = 2 := by decide +kernel
  have b3 : bits BinOp.and IntKind.i64 3 3 = 3 := by decide +kernel
  have c1 : wrap64 (1 + 0) = 1 := by decide +kernel
  have c2 : wrap64 (1 + 1) = 2 := by decide +kernel
  have c3 : wrap64 (1 + 2) = 3 := by decide +kernel
  have c4 : wrap64 (1 + 3) = 4 := by decide +kernel
  clear key
  rcases n with _ | _ | _ | _ | n
  all_goals first | omega | skip
  all_goals
    go_enter Try.func52, Try.ntmps52
    go_wp2
    go_ret
    exact ⟨by first | rfl | simp [b0, b1, b2, b3, c1, c2, c3, c4], K.out, same_alloc _⟩
end Go.Proofs.Ytlbgnmcjdmdjpaa
namespace Go.Proofs.Ytlbgnmcjdmdjpaa
open Go.RowKit Go.Shelf
attribute [local go_sem] Oper.semAt_some
abbrev Fl (W : World) (b : Nat) (v0 v1 v2 v3 v4 : Value) : Prop := W.cell? ⟨b, 0, none⟩ = some v0 ∧ W.cell? ⟨b, 1, none⟩ = some v1 ∧ W.cell? ⟨b, 2, none⟩ = some v2 ∧ W.cell? ⟨b, 3, none⟩ = some v3 ∧ W.cell? ⟨b, 4, none⟩ = some v4
theorem Five.fl {W0 W : World} {b : Nat} {v0 v1 v2 v3 v4 : Value} (h : Five W0 b v0 v1 v2 v3 v4) (hs : Same (fun _ => False) W0 W) : Fl W b v0 v1 v2 v3 v4 := have g := h.same hs (fun h => h); ⟨g.c0, g.c1, g.c2, g.c3, g.c4⟩
abbrev F0 (W : World) (b : Nat) : Prop := Five W b (.int .i64 0) (.int .i64 0) (.int .i64 0) (.int .i64 0) (.slice none 0 0)
abbrev Fl0 (W : World) (b : Nat) : Prop := Fl W b (.int .i64 0) (.int .i64 0) (.int .i64 0) (.int .i64 0) (.slice none 0 0)
abbrev Fz (W : World) (b : Nat) : Prop := W.frozen? ⟨b, 0, none⟩ = false ∧ W.frozen? ⟨b, 1, none⟩ = false ∧ W.frozen? ⟨b, 2, none⟩ = false ∧ W.frozen? ⟨b, 3, none⟩ = false ∧ W.frozen? ⟨b, 4, none⟩ = false
theorem Five.fz5 {W : World} {b : Nat} {v0 v1 v2 v3 v4 : Value} (h : Five W b v0 v1 v2 v3 v4) : Fz W b := ⟨h.fz 0, h.fz 1, h.fz 2, h.fz 3, h.fz 4⟩
/-- A box behind a world. -/
structure Bxx (W0 W : World) (b : Nat) : Prop where
  f : F0 W b
  le : W0.heap.size ≤ b
  sh : W.shape? b = some (75, 5)
theorem Bxx.same {W0 W W' : World} {b : Nat} {S : Nat → Prop} (h : Bxx W0 W b) (hs : Same S W W') (hn : ¬ S b) : Bxx W0 W' b :=
  ⟨h.f.same hs hn, h.le, (hs.shp b (World.block_lt_of_cell? _ _ h.f.c0)).trans h.sh⟩
theorem Bxx.new {W0 W : World} (hs : Same (fun _ => False) W0 W) : Bxx W0 (W.alloc (.cells #[.int .i64 0, .int .i64 0, .int .i64 0, .int .i64 0, .slice none 0 0] 75)) W.heap.size := ⟨five_new _ _ _ _ _ _, hs.size, by rw [shape_alloc, if_pos rfl]; rfl⟩
theorem Bxx.drew {W0 W : World} {b : Nat} (h : Bxx W0 W b) : Bxx W0 W.drew b := h.same (S := fun _ => False) ((Same.refl _ W).drew) (fun h => h)
theorem reg_given {W0 : World} {b0 : Nat} {v0 v1 v2 v3 v4 : Value} (hF : Five W0 b0 v0 v1 v2 v3 v4) (n : Nat) (h4 : n < 4) (W : World) (hs : Same (fun _ => False) W0 W) :
    Calls Try.prog 52 #[.int .i64 n] W fun e w' => ∃ g, e = .returned (.slice (some ⟨g, 0, none⟩) (n + 1) 4) ∧ Same (fun _ => False) W0 w' ∧ Fl w' b0 v0 v1 v2 v3 v4 ∧ Hid (IntsO w' (some ⟨g, 0, none⟩) (givenF.take (n + 1))) :=
  (given_any W n h4).mono fun e w' ⟨a, b, c⟩ => ⟨_, a, hs.trans c, hF.fl (hs.trans c), Lib.hid b⟩
theorem reg_givenB {W0 : World} {b0 : Nat} {v0 v1 v2 v3 v4 : Value} (hF : Five W0 b0 v0 v1 v2 v3 v4) (n : Nat) (h4 : n < 4) (W : World) (hs : Same (fun _ => False) W0 W) (b : Nat) (hb : Bxx W0 W b) :
    Calls Try.prog 52 #[.int .i64 n] W fun e w' => ∃ g, e = .returned (.slice (some ⟨g, 0, none⟩) (n + 1) 4) ∧ Same (fun _ => False) W0 w' ∧ Fl w' b0 v0 v1 v2 v3 v4 ∧ Hid (IntsO w' (some ⟨g, 0, none⟩) (givenF.take (n + 1))) ∧ Fl0 w' b ∧ Fz w' b ∧ Hid (Bxx W0 w' b) :=
  (given_any W n h4).mono fun e w' ⟨a, d, c⟩ => have hx := hb.same c (fun h => h); ⟨_, a, hs.trans c, hF.fl (hs.trans c), Lib.hid d, hx.f.fl (Same.refl _ _), hx.f.fz5, Lib.hid hx⟩
/-- What Attach leaves and tells. -/
structure AttP (W0 W : World) (f fb : Nat) (s : Spc) (page : Int) (gl : List Int) (R : Mm × Int) (r t d h : Int) (va : Option Addr) (vn vc : Nat) (er : Int) : Prop where
  mem : MemAt W f fb R.1
  same : Same (· = fb) W0 W
  er : er = R.2
  ok : R.2 = 0 → ∃ l', r = s.root ∧ t = s.text ∧ d = s.data ∧ h = s.heap ∧ AttO W (.slice va vn vc) l' ∧ l'.Perm (s.atts ++ [⟨page, gl.length, true⟩])
theorem att_raw {W0 W W1 : World} {f fb : Nat} {M : Mm} (hM : MemAt W0 f fb M) (s : Spc) (va : Option Addr) (vc : Nat) (hv : AttO W0 (.slice va s.atts.length vc) s.atts) (hal : s.atts.length ≤ 500) (page : Int) (hp : In64 page) (g : Option Addr) (c : Nat) (gl : List Int) (hll : gl.length ≤ 1000)
    (hs1 : Same (fun _ => False) W0 W1) (hi : Hid (IntsO W1 g gl)) (hs : Same (fun _ => False) W1 W) :
    Calls Try.prog 51 #[.pointer (some ⟨f, 0, none⟩), .agg #[.int .i64 s.root, .int .i64 s.text, .int .i64 s.data, .int .i64 s.heap, .slice va s.atts.length vc], .int .i64 page, .slice g gl.length c, .bool true] W fun e w' =>
      ∃ r t d h ua un uc er, e = .returned (.tuple #[.agg #[.int .i64 r, .int .i64 t, .int .i64 d, .int .i64 h, .slice ua un uc], .int .i64 er]) ∧ AttP W0 w' f fb s page gl (M.attach s page gl true) r t d h ua un uc er ∧ Same (· = fb) W w' := by
  have hs01 := hs1.trans hs
  refine (attach_any (hM.same0 hs01) s va vc (hv.same0 hs01) hal page hp g c gl (hi.out.same0 hs) hll true).mono ?_
  rintro e w' ⟨hM', hs', ⟨h0, v', l', rfl, hv', hp', _⟩ | ⟨h0, rfl⟩⟩
  · obtain ⟨ua, un, uc, rfl⟩ := atto_slice hv'
    exact ⟨_, _, _, _, _, _, _, _, rfl, ⟨hM', (hs01.mono (fun _ _ h => h.elim)).trans hs', h0.symm, fun _ => ⟨l', rfl, rfl, rfl, rfl, hv', hp'⟩⟩, hs'⟩
  · exact ⟨0, 0, 0, 0, none, 0, 0, _, rfl, ⟨hM', (hs01.mono (fun _ _ h => h.elim)).trans hs', rfl, fun h => absurd h h0⟩, hs'⟩
theorem reg_att {W0 : World} {f fb : Nat} {M : Mm} (hM : MemAt W0 f fb M) (s : Spc) (va : Option Addr) (vc : Nat) (hv : AttO W0 (.slice va s.atts.length vc) s.atts) (hal : s.atts.length ≤ 500) {b0 : Nat} (hF : Five W0 b0 (.int .i64 s.root) (.int .i64 s.text) (.int .i64 s.data) (.int .i64 s.heap) (.slice va s.atts.length vc)) (hne : b0 ≠ fb) (page : Int) (hp : In64 page) (gl : List Int) (hll : gl.length ≤ 1000)
    (W W1 : World) (g : Option Addr) (c : Nat) (hs1 : Same (fun _ => False) W0 W1) (hi : Hid (IntsO W1 g gl)) (hs : Same (fun _ => False) W1 W) :
    Calls Try.prog 51 #[.pointer (some ⟨f, 0, none⟩), .agg #[.int .i64 s.root, .int .i64 s.text, .int .i64 s.data, .int .i64 s.heap, .slice va s.atts.length vc], .int .i64 page, .slice g gl.length c, .bool true] W fun e w' =>
      ∃ r t d h ua un uc er, e = .returned (.tuple #[.agg #[.int .i64 r, .int .i64 t, .int .i64 d, .int .i64 h, .slice ua un uc], .int .i64 er]) ∧ Fl w' b0 (.int .i64 s.root) (.int .i64 s.text) (.int .i64 s.data) (.int .i64 s.heap) (.slice va s.atts.length vc) ∧ Hid (AttP W0 w' f fb s page gl (M.attach s page gl true) r t d h ua un uc er) :=
  (att_raw hM s va vc hv hal page hp g c gl hll hs1 hi hs).mono fun e w' ⟨r, t, d, h, ua, un, uc, er, h1, h2, _⟩ =>
    have q := hF.same h2.same hne
    ⟨r, t, d, h, ua, un, uc, er, h1, ⟨q.c0, q.c1, q.c2, q.c3, q.c4⟩, Lib.hid h2⟩
theorem reg_attB {W0 : World} {f fb : Nat} {M : Mm} (hM : MemAt W0 f fb M) (s : Spc) (va : Option Addr) (vc : Nat) (hv : AttO W0 (.slice va s.atts.length vc) s.atts) (hal : s.atts.length ≤ 500) {b0 : Nat} (hF : Five W0 b0 (.int .i64 s.root) (.int .i64 s.text) (.int .i64 s.data) (.int .i64 s.heap) (.slice va s.atts.length vc)) (hne : b0 ≠ fb) (page : Int) (hp : In64 page) (gl : List Int) (hll : gl.length ≤ 1000)
    (W W1 : World) (g : Option Addr) (c : Nat) (hs1 : Same (fun _ => False) W0 W1) (hi : Hid (IntsO W1 g gl)) (hs : Same (fun _ => False) W1 W) (b : Nat) (hb : Bxx W0 W b) :
    Calls Try.prog 51 #[.pointer (some ⟨f, 0, none⟩), .agg #[.int .i64 s.root, .int .i64 s.text, .int .i64 s.data, .int .i64 s.heap, .slice va s.atts.length vc], .int .i64 page, .slice g gl.length c, .bool true] W fun e w' =>
      ∃ r t d h ua un uc er, e = .returned (.tuple #[.agg #[.int .i64 r, .int .i64 t, .int .i64 d, .int .i64 h, .slice ua un uc], .int .i64 er]) ∧ Fl w' b0 (.int .i64 s.root) (.int .i64 s.text) (.int .i64 s.data) (.int .i64 s.heap) (.slice va s.atts.length vc) ∧ Hid (AttP W0 w' f fb s page gl (M.attach s page gl true) r t d h ua un uc er) ∧ Fl0 w' b ∧ Fz w' b ∧ Hid (Bxx W0 w' b) :=
  (att_raw hM s va vc hv hal page hp g c gl hll hs1 hi hs).mono fun e w' ⟨r, t, d, h, ua, un, uc, er, h1, h2, h3⟩ =>
    have q := hF.same h2.same hne
    have hl := hM.lt
    have x := hb.same h3 (fun e => by have := hb.le; omega)
    ⟨r, t, d, h, ua, un, uc, er, h1, ⟨q.c0, q.c1, q.c2, q.c3, q.c4⟩, Lib.hid h2, x.f.fl (Same.refl _ _), x.f.fz5, Lib.hid x⟩
/-- What stands behind such a region: a box b of what was told. -/
structure AttE (W0 W : World) (f fb : Nat) (s : Spc) (page : Int) (gl : List Int) (R : Mm × Int) (b : Nat) (r t d h : Int) (va : Option Addr) (vn vc : Nat) (er : Int) : Prop where
  p : AttP W0 W f fb s page gl R r t d h va vn vc er
  le : W0.heap.size ≤ b
  five : Five W b (.int .i64 r) (.int .i64 t) (.int .i64 d) (.int .i64 h) (.slice va vn vc)
  sh : W.shape? b = some (75, 5)
theorem AttP.ende {W0 W X : World} {f fb : Nat} {s : Spc} {page : Int} {gl : List Int} {R : Mm × Int} {r t d h : Int} {va : Option Addr} {vn vc : Nat} {er : Int} (hp : AttP W0 W f fb s page gl R r t d h va vn vc er) (hX : X = W.alloc (.cells #[.int .i64 r, .int .i64 t, .int .i64 d, .int .i64 h, .slice va vn vc] 75)) :
    AttE W0 X f fb s page gl R W.heap.size r t d h va vn vc er := by
  subst hX
  exact ⟨⟨hp.mem.same0 (same_alloc _), hp.same.trans ((same_alloc _).mono (fun _ _ h => h.elim)), hp.er, fun h => by
    obtain ⟨l', a, b, c, d, e, f⟩ := hp.ok h
    exact ⟨l', a, b, c, d, e.same0 (same_alloc _), f⟩⟩, hp.same.size, five_new _ _ _ _ _ _, by rw [shape_alloc, if_pos rfl]; rfl⟩
theorem AttP.endb {W0 W X : World} {f fb : Nat} {s : Spc} {page : Int} {gl : List Int} {R : Mm × Int} {r t d h : Int} {va : Option Addr} {vn vc : Nat} {er : Int} {b : Nat} (hp : AttP W0 W f fb s page gl R r t d h va vn vc er) (hlt : fb < W0.heap.size ∧ f < W0.heap.size) (hb : Bxx W0 W b)
    (hX : X = ((((W.setCell ⟨b, 0, none⟩ (.int .i64 r)).setCell ⟨b, 1, none⟩ (.int .i64 t)).setCell ⟨b, 2, none⟩ (.int .i64 d)).setCell ⟨b, 3, none⟩ (.int .i64 h)).setCell ⟨b, 4, none⟩ (.slice va vn vc)) :
    AttE W0 X f fb s page gl R b r t d h va vn vc er := by
  obtain ⟨g, hs⟩ := five_set hX hb.f
  have hle := hb.le
  have hsh := hb.sh
  refine ⟨⟨hp.mem.same hs (by omega) (by omega), ?_, hp.er, fun h => ?_⟩, hle, g, (hs.shp b (World.block_lt_of_cell? _ _ hb.f.c0)).trans hsh⟩
  · exact hp.same.trans' (hs.mono (T := fun x => x = fb ∨ W0.heap.size ≤ x) (fun x _ hx => by subst hx; exact .inr hle)) (fun x hx hlt => by rcases hx with hx | hx <;> omega)
  · obtain ⟨l', a, b, c, d, e, f⟩ := hp.ok h
    exact ⟨l', a, b, c, d, e.same hs (fun x hx m e => by subst hx; rw [hsh] at e; cases e), f⟩
end Go.Proofs.Ytlbgnmcjdmdjpaa
