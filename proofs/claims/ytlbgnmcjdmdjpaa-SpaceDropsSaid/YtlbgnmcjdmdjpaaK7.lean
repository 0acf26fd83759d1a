/- Plain laws of many spaces in one memory: what each frame is counted for. Conditions: none.
Plain laws of many spaces: frames taken, shared and freed; a page mapped. Conditions: none.
Plain laws of many spaces: a page mapped, a page unmapped. Conditions: none.
Memories that differ in frames that nobody uses alone: what is done to both comes to the same. Conditions: none.
Plain laws of many spaces: what is mapped and unmapped again is as if it had not been. Conditions: none.
Plain laws of many spaces: what the works on a space do, and leave alone. Conditions: none.
Plain laws of many spaces: pages one after another; a new space begun, a space dropped. Conditions: none.
Plain laws of many spaces: an image executed, a child forked. Conditions: none.
Plain laws of many spaces: how many frames are left, where none is shared. Conditions: none.
Plain laws of many spaces: a child is forked. Conditions: none.
Plain laws of a space that grows and shrinks, and is forked. Conditions: none.
Plain laws of a child that is forked where there is room. Conditions: none. -/
import Derived.Test.YtlbgnmcjdmdjpaaK5
set_option linter.unusedSimpArgs false
set_option linter.unusedVariables false
open Go Go.Proofs
namespace Go.Proofs.Ytlbgnmcjdmdjpaa
def cn (P : Nat → Bool) : Nat → Nat
  | 0 => 0
  | i + 1 => cn P i + if P i then 1 else 0
theorem cn_congr {P Q : Nat → Bool} : ∀ n : Nat, (∀ i, i < n → P i = Q i) → cn P n = cn Q n
  | 0, _ => rfl
  | n + 1, h => by simp only [cn, cn_congr n (fun i hi => h i (by omega)), h n (by omega)]
theorem cn_upd {P Q : Nat → Bool} {p : Nat} : ∀ n : Nat, p < n → (∀ q, q < n → q ≠ p → P q = Q q) → cn P n + (if Q p then 1 else 0) = cn Q n + (if P p then 1 else 0)
  | 0, h, _ => by omega
  | n + 1, hp, h => by
    simp only [cn]
    by_cases e : p = n
    · subst e
      rw [cn_congr p (fun i hi => h i (by omega) (by omega))]
      omega
    · have := cn_upd n (by omega) (fun q hq hqp => h q (by omega) hqp)
      rw [h n (by omega) (by omega)]
      omega
theorem cn_pos {P : Nat → Bool} {p : Nat} : ∀ n : Nat, p < n → P p = true → 0 < cn P n
  | 0, h, _ => by omega
  | n + 1, hp, h => by
    simp only [cn]
    by_cases e : p = n
    · subst e; rw [h]; simp
    · have := cn_pos n (by omega) h
      omega
theorem cn_zero {P : Nat → Bool} : ∀ n : Nat, (∀ i, i < n → P i = false) → cn P n = 0
  | 0, _ => rfl
  | n + 1, h => by simp only [cn, cn_zero n (fun i hi => h i (by omega)), h n (by omega)]; simp
theorem cn_not {P : Nat → Bool} {n p : Nat} (h : cn P n = 0) (hp : p < n) : P p = false := by
  cases e : P p with
  | false => rfl
  | true => have := cn_pos n hp e; omega
/-- Tables are used frames, each one another one: so many frames are not free. -/
theorem tcnt_room {R : Nat → Int} {n : Nat} {T : Nat → Option Nat} (h1 : ∀ i k, T i = some k → k < n ∧ 0 < R k) (h2 : ∀ i j k, T i = some k → T j = some k → i = j) : ∀ m : Nat, ∃ R' : Nat → Int, nfree R' n = nfree R n + tcnt T m ∧ ∀ i k, m ≤ i → T i = some k → 0 < R' k
  | 0 => ⟨R, rfl, fun i k _ h => (h1 i k h).2⟩
  | m + 1 => by
    obtain ⟨R', a, b⟩ := tcnt_room h1 h2 m
    cases e : T m with
    | none =>
      refine ⟨R', ?_, fun i k hi h => b i k (by omega) h⟩
      simp only [tcnt, e]; exact a
    | some k =>
      obtain ⟨c, d⟩ := h1 m k e
      refine ⟨fun x => if x = k then 0 else R' x, ?_, fun i y hi h => ?_⟩
      · have := nfree_take (R := fun x => if x = k then 0 else R' x) (R' := R') c (by simp) (b m k (Nat.le_refl _) e) (fun i hi => by simp [hi])
        simp only [tcnt, e]
        rw [this, a]; rfl
      · have : y ≠ k := by intro e2; subst e2; have := h2 _ _ _ e h; omega
        simp only [if_neg this]
        exact b i y (by omega) h
/-- A tree of tables, whatever else is in use. -/
structure Mm.Tre (M : Mm) (r : Nat) (T : Nat → Option Nat) : Prop where
  n2 : M.n ≤ 256
  rn : r < M.n
  rR : M.R r = 1
  tb : ∀ i k, T i = some k → i < 16 ∧ k < M.n ∧ k ≠ r ∧ M.R k = 1
  inj : ∀ i j k, T i = some k → T j = some k → i = j
  top0 : ∀ i, i < 16 → T i = none → M.ent r i = (0, 0)
  top1 : ∀ i k, T i = some k → M.ent r i = (1, (k : Int))
  low : ∀ i k j, T i = some k → j < 16 → (M.ent k j).1 = 0 → M.ent k j = (0, 0)
  ne : ∀ i k, T i = some k → ∃ j, j < 16 ∧ (M.ent k j).1 ≠ 0
  z1 : ∀ i, i < 16 → M.B r (4 * i + 1) = 0
  z2 : ∀ i k j, T i = some k → j < 16 → M.B k (4 * j + 1) = 0
theorem Mm.Tre.tree {M : Mm} {r : Nat} {T : Nat → Option Nat} (h : M.Tre r T) : ∃ cu, M.Tree r T cu := by
  obtain ⟨R', a, _⟩ := tcnt_room (R := M.R) (n := M.n) (T := T) (fun i k e => by obtain ⟨_, b, _, d⟩ := h.tb i k e; exact ⟨b, by omega⟩) h.inj 16
  have := nfree_most R' M.n
  exact ⟨M.n - nfree M.R M.n - tcnt T 16, h.n2, h.rn, h.rR, h.tb, h.inj, h.top0, h.top1, h.low, h.ne, by omega⟩
theorem Mm.Tree.tre {M : Mm} {r : Nat} {T : Nat → Option Nat} {cu : Nat} (h : M.Tree r T cu) (z1 : ∀ i, i < 16 → M.B r (4 * i + 1) = 0) (z2 : ∀ i k j, T i = some k → j < 16 → M.B k (4 * j + 1) = 0) : M.Tre r T :=
  ⟨h.n2, h.rn, h.rR, h.tb, h.inj, h.top0, h.top1, h.low, h.ne, z1, z2⟩
theorem ent_B {M N : Mm} {k i : Nat} (h : ∀ o, N.B k o = M.B k o) : N.ent k i = M.ent k i := by simp only [Mm.ent, h]
theorem Mm.Tre.keep {M N : Mm} {r : Nat} {T : Nat → Option Nat} (h : M.Tre r T) (hn : N.n = M.n) (hR : N.R r = 1) (hRt : ∀ i k, T i = some k → N.R k = 1) (hB : ∀ o, N.B r o = M.B r o) (hBt : ∀ i k, T i = some k → ∀ o, N.B k o = M.B k o) :
    N.Tre r T ∧ ∀ p, p < 256 → N.lk r p = M.lk r p := by
  have hT : N.Tre r T := by
    refine ⟨by rw [hn]; exact h.n2, by rw [hn]; exact h.rn, hR, fun i k e => ?_, h.inj, fun i hi e => ?_, fun i k e => ?_, fun i k j e hj => ?_, fun i k e => ?_, fun i hi => by rw [hB]; exact h.z1 i hi, fun i k j e hj => by rw [hBt i k e]; exact h.z2 i k j e hj⟩
    · obtain ⟨a, b, c, _⟩ := h.tb i k e
      exact ⟨a, by rw [hn]; exact b, c, hRt i k e⟩
    · rw [ent_B hB]; exact h.top0 i hi e
    · rw [ent_B hB]; exact h.top1 i k e
    · rw [ent_B (hBt i k e)]; exact h.low i k j e hj
    · obtain ⟨j, a, b⟩ := h.ne i k e
      exact ⟨j, a, by rw [ent_B (hBt i k e)]; exact b⟩
  refine ⟨hT, fun p hp => ?_⟩
  obtain ⟨cu, a⟩ := h.tree
  obtain ⟨cu', b⟩ := hT.tree
  rw [Mm.lk_tree a hp, Mm.lk_tree b hp]
  cases e : T (p / 16) with
  | none => rfl
  | some k => exact ent_B (hBt _ k e)
/-- How often a frame is a root, a table, a page of one space. -/
def own (M : Mm) (r : Nat) (T : Nat → Option Nat) (x : Nat) : Nat :=
  (if x = r then 1 else 0) + cn (fun i => T i == some x) 16 + cn (fun p => decide ((M.lk r p).1 ≠ 0 ∧ (M.lk r p).2 = (x : Int))) 256
abbrev Sps := List (Nat × (Nat → Option Nat))
def osum (M : Mm) (x : Nat) : Sps → Nat
  | [] => 0
  | a :: l => own M a.1 a.2 x + osum M x l
theorem own_le {M : Mm} {x : Nat} {b : Nat × (Nat → Option Nat)} : ∀ {L : Sps}, b ∈ L → own M b.1 b.2 x ≤ osum M x L
  | a :: l, h => by
    simp only [osum]
    rcases List.mem_cons.1 h with rfl | h
    · omega
    · have := own_le (M := M) (x := x) h
      omega
theorem osum_congr {M N : Mm} {x : Nat} : ∀ {L : Sps}, (∀ b ∈ L, own N b.1 b.2 x = own M b.1 b.2 x) → osum N x L = osum M x L
  | [], _ => rfl
  | a :: l, h => by
    have ih := osum_congr (M := M) (N := N) (x := x) (L := l) (fun b hb => h b (List.mem_cons_of_mem _ hb))
    simp only [osum, h a List.mem_cons_self, ih]
theorem osum_perm {M : Mm} {x : Nat} {L L' : Sps} (h : L.Perm L') : osum M x L = osum M x L' := by
  induction h with
  | nil => rfl
  | cons a _ ih => simp only [osum, ih]
  | swap a b l => simp only [osum]; omega
  | trans _ _ ih1 ih2 => exact ih1.trans ih2
def plus (E : Nat → Nat) (k : Nat) : Nat → Nat := fun x => E x + if x = k then 1 else 0
/-- A memory with spaces: each frame is counted once for each root, table, page that it is, and for each other who has it. -/
structure Mm.Good (M : Mm) (L : Sps) (E : Nat → Nat) : Prop where
  n2 : M.n ≤ 256
  tre : ∀ a ∈ L, M.Tre a.1 a.2
  pg : ∀ a ∈ L, ∀ p, p < 256 → (M.lk a.1 p).1 ≠ 0 → ∃ fl y : Nat, M.lk a.1 p = ((fl : Int), (y : Int)) ∧ y < M.n ∧ fl ≤ 7 ∧ fl % 2 = 1
  cnt : ∀ x, x < M.n → M.R x = ((E x + osum M x L : Nat) : Int)
theorem Mm.Good.perm {M : Mm} {L L' : Sps} {E : Nat → Nat} (h : M.Good L E) (hp : L.Perm L') : M.Good L' E :=
  ⟨h.n2, fun a ha => h.tre a (hp.mem_iff.2 ha), fun a ha => h.pg a (hp.mem_iff.2 ha), fun x hx => by rw [h.cnt x hx, osum_perm hp]⟩
theorem Mm.Good.free0 {M : Mm} {L : Sps} {E : Nat → Nat} (h : M.Good L E) {k : Nat} (hk : k < M.n) (h0 : M.R k ≤ 0) : M.R k = 0 ∧ E k = 0 ∧ osum M k L = 0 := by
  have := h.cnt k hk; omega
theorem own_root (M : Mm) (r : Nat) (T : Nat → Option Nat) : 0 < own M r T r := by unfold own; simp; omega
theorem own_tab {M : Mm} {r : Nat} {T : Nat → Option Nat} {i k : Nat} (hi : i < 16) (h : T i = some k) : 0 < own M r T k := by
  unfold own
  have := cn_pos (P := fun i => T i == some k) 16 hi (by simp [h])
  omega
theorem own_page {M : Mm} {r : Nat} {T : Nat → Option Nat} {p x : Nat} (hp : p < 256) (h : (M.lk r p).1 ≠ 0) (he : (M.lk r p).2 = (x : Int)) : 0 < own M r T x := by
  unfold own
  have := cn_pos (P := fun p => decide ((M.lk r p).1 ≠ 0 ∧ (M.lk r p).2 = (x : Int))) 256 hp (by simp [h, he])
  omega
theorem own_congr {M N : Mm} {r : Nat} {T : Nat → Option Nat} (h : ∀ p, p < 256 → N.lk r p = M.lk r p) (x : Nat) : own N r T x = own M r T x := by
  unfold own
  rw [cn_congr (Q := fun p => decide ((M.lk r p).1 ≠ 0 ∧ (M.lk r p).2 = (x : Int))) 256 (fun p hp => by rw [h p hp])]
/-- A frame of another space is none of this one's tree. -/
theorem Mm.Good.apart {M : Mm} {r : Nat} {T : Nat → Option Nat} {L : Sps} {E : Nat → Nat} (h : M.Good ((r, T) :: L) E) {x : Nat} (ho : 0 < E x + osum M x L) : x ≠ r ∧ ∀ i, T i ≠ some x := by
  have hT := h.tre _ (List.mem_cons_self)
  refine ⟨fun e => ?_, fun i e => ?_⟩
  · subst e
    have c := h.cnt x hT.rn
    have a := own_root M x T
    have b := hT.rR
    simp only [osum] at c b
    omega
  · have hi := hT.tb i x e
    have c := h.cnt x hi.2.1
    have a := own_tab (M := M) (r := r) hi.1 e
    simp only [osum] at c
    omega
/-- A page's frame is none of its space's tree. -/
theorem Mm.Good.self {M : Mm} {r : Nat} {T : Nat → Option Nat} {L : Sps} {E : Nat → Nat} (h : M.Good ((r, T) :: L) E) {p x : Nat} (hp : p < 256) (h0 : (M.lk r p).1 ≠ 0) (hx : (M.lk r p).2 = (x : Int)) : x < M.n ∧ 0 < M.R x ∧ x ≠ r ∧ ∀ i, T i ≠ some x := by
  have hT := h.tre _ (List.mem_cons_self)
  obtain ⟨fl, y, e, hy, _⟩ := h.pg _ (List.mem_cons_self) p hp h0
  have : y = x := by simp only at e; rw [e] at hx; simp only at hx; omega
  subst this
  have c := h.cnt y hy
  have hc := cn_pos (P := fun p => decide ((M.lk r p).1 ≠ 0 ∧ (M.lk r p).2 = (y : Int))) 256 hp (by simp [h0, hx])
  have ow : own M r T y = (if y = r then 1 else 0) + cn (fun i => T i == some y) 16 + cn (fun p => decide ((M.lk r p).1 ≠ 0 ∧ (M.lk r p).2 = (y : Int))) 256 := rfl
  simp only [osum] at c
  refine ⟨hy, by omega, fun e => ?_, fun i e => ?_⟩
  · subst e
    have b := hT.rR
    simp only at b
    rw [if_pos rfl] at ow
    omega
  · have hi := hT.tb i y e
    have := cn_pos (P := fun i => T i == some y) 16 hi.1 (by simp [e])
    omega
theorem Mm.Good.page {M : Mm} {L : Sps} {E : Nat → Nat} (h : M.Good L E) {a b : Nat × (Nat → Option Nat)} (ha : a ∈ L) (hb : b ∈ L) {p x : Nat} (hp : p < 256) (h0 : (M.lk a.1 p).1 ≠ 0) (hx : (M.lk a.1 p).2 = (x : Int)) : x < M.n ∧ 0 < M.R x ∧ x ≠ b.1 ∧ ∀ i, b.2 i ≠ some x := by
  obtain ⟨fl, y, e, hy, _⟩ := h.pg a ha p hp h0
  have : y = x := by rw [e] at hx; simp only at hx; omega
  subst this
  have ho := own_page (T := a.2) hp h0 hx
  have c := h.cnt y hy
  have l1 := own_le (M := M) (x := y) ha
  obtain ⟨L1, L2, hL⟩ := List.append_of_mem hb
  have hq : L.Perm (b :: (L1 ++ L2)) := by rw [hL]; exact List.perm_middle
  have g := h.perm hq
  rcases List.mem_cons.1 (hq.mem_iff.1 ha) with e | e
  · subst e
    exact g.self hp h0 hx
  · have := own_le (M := M) (x := y) e
    exact ⟨hy, by omega, g.apart (by omega)⟩
/-- What another tree, and its pages, are behind something done to this one. -/
theorem Mm.Good.other {M N : Mm} {r : Nat} {T : Nat → Option Nat} {L : Sps} {E : Nat → Nat} (h : M.Good ((r, T) :: L) E) (hn : N.n = M.n)
    (hR : ∀ x, x < M.n → M.R x = 1 → x ≠ r → (∀ i, T i ≠ some x) → N.R x = 1) (hB : ∀ x, x < M.n → 0 < M.R x → x ≠ r → (∀ i, T i ≠ some x) → (∀ o, N.B x o = M.B x o) ∨ osum M x L = 0) {b : Nat × (Nat → Option Nat)} (hb : b ∈ L) :
    N.Tre b.1 b.2 ∧ ∀ p, p < 256 → N.lk b.1 p = M.lk b.1 p := by
  have hT := h.tre b (List.mem_cons_of_mem _ hb)
  have o1 : 0 < osum M b.1 L := Nat.lt_of_lt_of_le (own_root _ _ _) (own_le (M := M) (x := b.1) hb)
  have h1 := h.apart (x := b.1) (by omega)
  have h2 : ∀ i k, b.2 i = some k → k < M.n ∧ M.R k = 1 ∧ k ≠ r ∧ (∀ i, T i ≠ some k) ∧ 0 < osum M k L := fun i k e => by
    obtain ⟨a, c, _, d⟩ := hT.tb i k e
    have o := Nat.lt_of_lt_of_le (own_tab (M := M) (r := b.1) a e) (own_le (M := M) (x := k) hb)
    have := h.apart (x := k) (by omega)
    exact ⟨c, d, this.1, this.2, o⟩
  have hr := hT.rR
  refine hT.keep hn (hR _ hT.rn hT.rR h1.1 h1.2) (fun i k e => ?_) ((hB _ hT.rn (by omega) h1.1 h1.2).resolve_right (by omega)) (fun i k e => ?_)
  · obtain ⟨a, c, d, f, g⟩ := h2 i k e; exact hR k a c d f
  · obtain ⟨a, c, d, f, g⟩ := h2 i k e; exact (hB k a (by omega) d f).resolve_right (by omega)
theorem Mm.Good.tree {M : Mm} {r : Nat} {T : Nat → Option Nat} {L : Sps} {E : Nat → Nat} (h : M.Good ((r, T) :: L) E) : M.Tre r T := h.tre _ List.mem_cons_self
end Go.Proofs.Ytlbgnmcjdmdjpaa
open Go Go.Proofs
namespace Go.Proofs.Ytlbgnmcjdmdjpaa
theorem Mm.map_cases {M : Mm} {r : Nat} {T : Nat → Option Nat} {cu : Nat} (h : M.Tree r T cu) (page frame flags : Int) :
    ((M.map r page frame flags).2 ≠ 0 ∧ (M.map r page frame flags).1 = M) ∨
    ((M.map r page frame flags).2 = 0 ∧ ∃ p fr fl : Nat, page = p ∧ frame = fr ∧ flags = fl ∧ p < 256 ∧ fr < 256 ∧ fl ≤ 7 ∧ fl % 2 = 1 ∧ (M.lk r p).1 = 0 ∧
      ((∃ t, T (p / 16) = some t ∧ (M.map r page frame flags).1 = M.put t (p % 16) fl fr) ∨ (T (p / 16) = none ∧ ∃ t, M.least = some t ∧ (M.map r page frame flags).1 = ((M.alloc t).put r (p / 16) 1 t).put t (p % 16) fl fr))) := by
  have hck := h.check page
  by_cases hpg : 0 ≤ page ∧ page ≤ 255
  · rw [if_pos hpg] at hck
    obtain ⟨p, rfl⟩ := Int.eq_ofNat_of_zero_le hpg.1
    by_cases hbad : (0 ≤ frame ∧ frame ≤ 255) ∧ (0 ≤ flags ∧ flags ≤ 7) ∧ flags % 2 = 1
    · obtain ⟨hf, hl, ho⟩ := hbad
      obtain ⟨fr, rfl⟩ := Int.eq_ofNat_of_zero_le hf.1
      obtain ⟨fl, rfl⟩ := Int.eq_ofNat_of_zero_le hl.1
      have hu : M.isUsed r = true := Mm.isUsed_nat h.rn (by rw [h.rR]; decide)
      have hg : M.get r (p / 16) = M.ent r (p / 16) := by simp [Mm.get, hu]
      have hp : p < 256 := by omega
      have hm : M.map r p fr fl = if M.get r (p / 16) = (0, 0) then match M.least with
          | none => (M, 11)
          | some k => ((M.alloc k).put r (p / 16) 1 k).mapLow k (p % 16) fl fr
        else M.mapLow (M.get r (p / 16)).2 (p % 16) fl fr := by
        simp only [Mm.map, hck, ne_eq, not_true_eq_false, if_false, Int.toNat_natCast]; rw [if_neg (fun hh => hh ⟨hf, hl, ho⟩)]; rfl
      cases hT : T (p / 16) with
      | none =>
        rw [hm, if_pos (by rw [hg]; exact h.top0 _ (by omega) hT)]
        cases hle : M.least with
        | none => left; exact ⟨by simp, rfl⟩
        | some k =>
          right
          obtain ⟨g1, g2, g3, g4, g5, g6, g7⟩ := Mm.map_new h (i := p / 16) (by omega) hT hle (j := p % 16) (fl := fl) (fr := fr) (by omega) (by omega) (by omega) (by omega)
          simp only [g1]
          exact ⟨trivial, p, fr, fl, rfl, rfl, rfl, hp, by omega, by omega, by omega, by rw [Mm.lk_tree h hp, hT], .inr ⟨hT, k, rfl, rfl⟩⟩
      | some k =>
        have hne : M.get r (p / 16) = (1, (k : Int)) := by rw [hg]; exact h.top1 _ _ hT
        rw [hm, if_neg (by rw [hne]; simp), hne]
        simp only
        obtain ⟨a1, a2, a3, a4⟩ := h.tb _ _ hT
        have hgk : M.get k (p % 16) = M.ent k (p % 16) := by simp [Mm.get, Mm.isUsed_nat a2 (by rw [a4]; decide)]
        unfold Mm.mapLow
        rw [hgk]
        by_cases hz : M.ent k (p % 16) = (0, 0)
        · right
          rw [if_pos hz]
          exact ⟨rfl, p, fr, fl, rfl, rfl, rfl, hp, by omega, by omega, by omega, by rw [Mm.lk_tree h hp, hT]; simp only [hz], .inl ⟨k, hT, rfl⟩⟩
        · left; rw [if_neg hz]; exact ⟨by simp, rfl⟩
    · left
      have : M.map r p frame flags = (M, 2) := by simp only [Mm.map, hck, ne_eq, not_true_eq_false, if_false, if_pos hbad]
      rw [this]; exact ⟨by simp, rfl⟩
  · left
    rw [if_neg hpg] at hck
    have : M.map r page frame flags = (M, 2) := by simp [Mm.map, hck]
    rw [this]; exact ⟨by simp, rfl⟩
def treeFr (L : Sps) (x : Nat) : Prop := ∃ b ∈ L, x = b.1 ∨ ∃ i, b.2 i = some x
theorem Mm.Good.tfr {M : Mm} {L : Sps} {E : Nat → Nat} (h : M.Good L E) {x : Nat} (hx : treeFr L x) : x < M.n ∧ M.R x = 1 ∧ E x = 0 := by
  obtain ⟨b, hb, e | ⟨i, e⟩⟩ := hx
  · have hT := h.tre b hb
    subst e
    have c := h.cnt _ hT.rn
    have := own_le (M := M) (x := b.1) hb
    have := own_root M b.1 b.2
    have := hT.rR
    exact ⟨hT.rn, hT.rR, by omega⟩
  · obtain ⟨a, c, _, d⟩ := (h.tre b hb).tb i x e
    have c' := h.cnt _ c
    have := own_le (M := M) (x := x) hb
    have := own_tab (M := M) (r := b.1) a e
    exact ⟨c, d, by omega⟩
theorem Mm.Good.keep {M N : Mm} {L : Sps} {E : Nat → Nat} (h : M.Good L E) (hn : N.n = M.n) (hR : ∀ x, treeFr L x → N.R x = 1) (hB : ∀ x, treeFr L x → ∀ o, N.B x o = M.B x o) :
    ∀ b ∈ L, N.Tre b.1 b.2 ∧ ∀ p, p < 256 → N.lk b.1 p = M.lk b.1 p := fun b hb =>
  (h.tre b hb).keep hn (hR _ ⟨b, hb, .inl rfl⟩) (fun i k e => hR k ⟨b, hb, .inr ⟨i, e⟩⟩) (hB _ ⟨b, hb, .inl rfl⟩) (fun i k e => hB k ⟨b, hb, .inr ⟨i, e⟩⟩)
theorem Mm.Good.mk' {M N : Mm} {L : Sps} {E E' : Nat → Nat} (h : M.Good L E) (hn : N.n = M.n) (hk : ∀ b ∈ L, N.Tre b.1 b.2 ∧ ∀ p, p < 256 → N.lk b.1 p = M.lk b.1 p) (hc : ∀ x, x < M.n → N.R x = ((E' x + osum M x L : Nat) : Int)) : N.Good L E' :=
  ⟨by rw [hn]; exact h.n2, fun a ha => (hk a ha).1, fun a ha p hp h0 => by rw [(hk a ha).2 p hp] at h0 ⊢; rw [hn]; exact h.pg a ha p hp h0,
    fun x hx => by rw [osum_congr (M := M) (fun b hb => own_congr (hk b hb).2 x)]; exact hc x (by omega)⟩
theorem plus_ne {E : Nat → Nat} {k x : Nat} (h : x ≠ k) : plus E k x = E x := by simp [plus, h]
theorem plus_eq (E : Nat → Nat) (k : Nat) : plus E k k = E k + 1 := by simp [plus]
/-- A frame is taken. -/
theorem Mm.Good.alloc {M : Mm} {L : Sps} {E : Nat → Nat} (h : M.Good L E) {k : Nat} (hl : M.least = some k) : (M.alloc k).Good L (plus E k) ∧ ∀ b ∈ L, ∀ p, p < 256 → (M.alloc k).lk b.1 p = M.lk b.1 p := by
  obtain ⟨hk, hz, -⟩ := Mm.least_spec hl
  have f := h.free0 hk hz
  have hne : ∀ x, treeFr L x → x ≠ k := fun x hx e => by subst e; have := (h.tfr hx).2.1; omega
  have K := h.keep (N := M.alloc k) rfl (fun x hx => by have := hne x hx; simp [Mm.alloc, this, (h.tfr hx).2.1]) (fun x hx o => by have := hne x hx; simp [Mm.alloc, this])
  refine ⟨h.mk' rfl K (fun x hx => ?_), fun b hb => (K b hb).2⟩
  by_cases e : x = k
  · subst e; rw [plus_eq]; simp [Mm.alloc]; omega
  · rw [plus_ne e, ← h.cnt x hx]; simp [Mm.alloc, e]
/-- A frame is freed. -/
theorem Mm.Good.free {M : Mm} {L : Sps} {E : Nat → Nat} {k : Nat} (h : M.Good L (plus E k)) (hk : k < M.n) : (M.free k).Good L E ∧ (M.free k).n = M.n ∧ (M.free k).B = M.B ∧ (∀ x, (M.free k).R x = if x = k then M.R k - 1 else M.R x) ∧ ∀ b ∈ L, ∀ p, p < 256 → (M.free k).lk b.1 p = M.lk b.1 p := by
  have c := h.cnt k hk
  rw [plus_eq] at c
  have hu : M.isUsed k = true := Mm.isUsed_nat hk (by omega)
  have hf : M.free k = M.setR k (M.R k - 1) := by unfold Mm.free; rw [hu]; rfl
  rw [hf]
  have hne : ∀ x, treeFr L x → x ≠ k := fun x hx e => by subst e; have := (h.tfr hx).2.2; rw [plus_eq] at this; omega
  have K := h.keep (N := M.setR k (M.R k - 1)) rfl (fun x hx => by have := hne x hx; simp [Mm.setR, this, (h.tfr hx).2.1]) (fun x hx o => rfl)
  refine ⟨h.mk' rfl K (fun x hx => ?_), rfl, rfl, fun x => rfl, fun b hb => (K b hb).2⟩
  by_cases e : x = k
  · subst e; simp [Mm.setR]; omega
  · have := h.cnt x hx; rw [plus_ne e] at this; rw [← this]; simp [Mm.setR, e]
/-- A frame is shared. -/
theorem Mm.Good.share {M : Mm} {L : Sps} {E : Nat → Nat} {k : Nat} (h : M.Good L E) (hk : k < M.n) (h0 : 0 < M.R k) (ht : ¬ treeFr L k) : (M.setR k (M.R k + 1)).Good L (plus E k) ∧ ∀ b ∈ L, ∀ p, p < 256 → (M.setR k (M.R k + 1)).lk b.1 p = M.lk b.1 p := by
  have hne : ∀ x, treeFr L x → x ≠ k := fun x hx e => by subst e; exact ht hx
  have K := h.keep (N := M.setR k (M.R k + 1)) rfl (fun x hx => by have := hne x hx; simp [Mm.setR, this, (h.tfr hx).2.1]) (fun x hx o => rfl)
  refine ⟨h.mk' rfl K (fun x hx => ?_), fun b hb => (K b hb).2⟩
  by_cases e : x = k
  · subst e; have := h.cnt x hx; rw [plus_eq]; simp [Mm.setR]; omega
  · have := h.cnt x hx; rw [plus_ne e, ← this]; simp [Mm.setR, e]
/-- Bytes are written, to no table. -/
theorem Mm.Good.bytes {M N : Mm} {L : Sps} {E : Nat → Nat} (h : M.Good L E) (hn : N.n = M.n) (hR : ∀ x, x < M.n → N.R x = M.R x) (hB : ∀ x, treeFr L x → ∀ o, N.B x o = M.B x o) : N.Good L E ∧ ∀ b ∈ L, ∀ p, p < 256 → N.lk b.1 p = M.lk b.1 p := by
  have K := h.keep hn (fun x hx => by rw [hR x (h.tfr hx).1, (h.tfr hx).2.1]) hB
  exact ⟨h.mk' hn K (fun x hx => by rw [hR x hx]; exact h.cnt x hx), fun b hb => (K b hb).2⟩
/-- A new root. -/
theorem Mm.Good.begun {M : Mm} {L : Sps} {E : Nat → Nat} (h : M.Good L E) {k : Nat} (hl : M.least = some k) :
    (M.alloc k).Good ((k, fun _ => none) :: L) E ∧ (∀ b ∈ L, ∀ p, p < 256 → (M.alloc k).lk b.1 p = M.lk b.1 p) ∧ ∀ p, p < 256 → ((M.alloc k).lk k p).1 = 0 := by
  obtain ⟨hk, hz, -⟩ := Mm.least_spec hl
  have f := h.free0 hk hz
  obtain ⟨a, b⟩ := h.alloc hl
  have hT : (M.alloc k).Tre k (fun _ => none) :=
    ⟨h.n2, hk, (by simp [Mm.alloc]), fun i k e => (by cases e), fun i j k e => (by cases e), fun i _ _ => (by rw [Mm.alloc_ent, if_pos rfl]), fun i k e => (by cases e), fun i k j e => (by cases e), fun i k e => (by cases e), fun i _ => (by simp [Mm.alloc]), fun i k j e => (by cases e)⟩
  obtain ⟨cu, hU⟩ := hT.tree
  have hlk : ∀ p, p < 256 → ((M.alloc k).lk k p).1 = 0 := fun p hp => by rw [Mm.lk_tree hU hp]
  refine ⟨⟨a.n2, fun x hx => ?_, fun x hx p hp h0 => ?_, fun x hx => ?_⟩, b, hlk⟩
  · rcases List.mem_cons.1 hx with rfl | hx
    · exact hT
    · exact a.tre x hx
  · rcases List.mem_cons.1 hx with rfl | hx
    · exact absurd (hlk p hp) h0
    · exact a.pg x hx p hp h0
  · have c := a.cnt x hx
    have o : own (M.alloc k) k (fun _ => none) x = if x = k then 1 else 0 := by
      unfold own
      rw [cn_zero 16 (fun i _ => by simp), cn_zero 256 (fun p hp => by simp [hlk p hp])]
      rfl
    simp only [osum, o]
    rw [c]
    simp only [plus]
    omega
end Go.Proofs.Ytlbgnmcjdmdjpaa
open Go Go.Proofs
namespace Go.Proofs.Ytlbgnmcjdmdjpaa
theorem Mm.unmap_exact {M : Mm} {r : Nat} {T : Nat → Option Nat} {cu : Nat} (h : M.Tree r T cu) (page : Int) :
    ((M.unmap r page).2.2 ≠ 0 ∧ (M.unmap r page).1 = M ∧ ∀ p : Nat, page = p → p < 256 → (M.lk r p).1 = 0) ∨
    ((M.unmap r page).2.2 = 0 ∧ ∃ p : Nat, page = p ∧ p < 256 ∧ (M.lk r p).1 ≠ 0 ∧ (M.unmap r page).2.1 = (M.lk r p).2 ∧ ∃ t, T (p / 16) = some t ∧
      (((M.unmap r page).1.Tree r T cu ∧ (M.unmap r page).1 = M.put t (p % 16) 0 0) ∨ ((M.unmap r page).1.Tree r (fun x => if x = p / 16 then none else T x) cu ∧ (M.unmap r page).1 = ((M.put t (p % 16) 0 0).setR t 0).put r (p / 16) 0 0 ∧ ∀ y, y < 16 → y ≠ p % 16 → (M.ent t y).1 = 0)) ∧
      (M.unmap r page).1.n = M.n ∧
      (M.unmap r page).1.lk r p = (0, 0) ∧ ∀ q, q < 256 → q ≠ p → (M.unmap r page).1.lk r q = M.lk r q) := by
  by_cases hpg : 0 ≤ page ∧ page ≤ 255
  · obtain ⟨p, rfl⟩ := Int.eq_ofNat_of_zero_le hpg.1
    have hp : p < 256 := by omega
    have hw := h.walk hp
    by_cases hz : (M.lk r p).1 = 0
    · rw [if_pos hz] at hw
      left
      have : M.unmap r p = (M, 0, 30) := by simp [Mm.unmap, hw]
      rw [this]
      exact ⟨by simp, rfl, fun q hq _ => by obtain rfl : p = q := by omega
                                            exact hz⟩
    · rw [if_neg hz] at hw
      right
      have hu : M.isUsed r = true := Mm.isUsed_nat h.rn (by rw [h.rR]; decide)
      have hg : M.get r (p / 16) = M.ent r (p / 16) := by simp [Mm.get, hu]
      have hm : M.unmap r p = (M.cut r (M.get r (p / 16)).2 (p / 16) (p % 16), (M.lk r p).2, 0) := by
        simp [Mm.unmap, hw]
      have hlk := Mm.lk_tree h hp
      cases hT : T (p / 16) with
      | none => rw [hT] at hlk; rw [hlk] at hz; exact absurd rfl hz
      | some k =>
        rw [hT] at hlk
        simp only at hlk
        rw [hm, hg, h.top1 _ _ hT]
        simp only
        obtain ⟨a1, a2, a3, a4⟩ := h.tb _ _ hT
        have hn2 := h.n2
        have E1 : ∀ x y, (M.put k (p % 16) 0 0).ent x y = if x = k ∧ y = p % 16 then (0, 0) else M.ent x y := fun x y => Mm.put_ent a2 (by rw [a4]; decide) (p % 16) 0 0 x y (by omega) (by omega)
        have R1 := Mm.put_R M k (p % 16) 0 0
        have N1 := Mm.put_n M k (p % 16) 0 0
        obtain ⟨M1, hM1⟩ : ∃ M1, M1 = M.put k (p % 16) 0 0 := ⟨_, rfl⟩
        unfold Mm.cut
        rw [← hM1] at E1 R1 N1 ⊢
        have hgk : ∀ y, M1.get k y = M1.ent k y := by
          intro y
          have : M1.isUsed k = true := Mm.isUsed_nat (by rw [N1]; exact a2) (by rw [R1, a4]; decide)
          simp [Mm.get, this]
        refine ⟨trivial, p, rfl, hp, hz, rfl, k, hT, ?_⟩
        by_cases he : M1.empty k = true
        · rw [if_pos he]
          have he' := (Mm.empty_iff _ _).1 he
          have hu1 : M1.isUsed k = true := Mm.isUsed_nat (by rw [N1]; exact a2) (by rw [R1, a4]; decide)
          have hfr : M1.free k = M1.setR k (M1.R k - 1) := by simp [Mm.free, hu1]
          obtain ⟨M2, hM2⟩ : ∃ M2, M2 = M1.free k := ⟨_, rfl⟩
          have R2 : ∀ x, M2.R x = if x = k then 0 else M.R x := by
            intro x; rw [hM2, hfr]; unfold Mm.setR; simp only [R1, a4]; rfl
          have N2 : M2.n = M.n := by rw [hM2, hfr, ← N1]; rfl
          have E2 : ∀ x y, M2.ent x y = M1.ent x y := by intro x y; rw [hM2, hfr]; rfl
          rw [← hM2]
          have R2r : M2.R r = 1 := by rw [R2, if_neg (Ne.symm a3)]; exact h.rR
          have E3 : ∀ x y, (M2.put r (p / 16) 0 0).ent x y = if x = r ∧ y = p / 16 then (0, 0) else M1.ent x y := by
            intro x y; rw [Mm.put_ent (by rw [N2]; exact h.rn) (by rw [R2r]; decide) (p / 16) 0 0 x y (by omega) (by omega), E2]; rfl
          have R3 : (M2.put r (p / 16) 0 0).R = M2.R := Mm.put_R _ _ _ _ _
          have N3 : (M2.put r (p / 16) 0 0).n = M.n := by rw [Mm.put_n, N2]
          obtain ⟨M3, hM3⟩ : ∃ M3, M3 = M2.put r (p / 16) 0 0 := ⟨_, rfl⟩
          rw [← hM3] at E3 R3 N3 ⊢
          have hoth : ∀ x y, x ≠ p / 16 → T x = some y → y ≠ k := by
            intro x y hx hy e; subst e; exact hx (h.inj _ _ _ hy hT)
          have tree : M3.Tree r (fun x => if x = p / 16 then none else T x) cu := by
            refine ⟨by rw [N3]; exact hn2, by rw [N3]; exact h.rn, by rw [R3]; exact R2r, ?_, ?_, ?_, ?_, ?_, ?_, ?_⟩
            · intro x y hx
              by_cases e : x = p / 16
              · simp [e] at hx
              · simp only [if_neg e] at hx
                obtain ⟨b1, b2, b3, b4⟩ := h.tb x y hx
                exact ⟨b1, by rw [N3]; exact b2, b3, by rw [R3, R2, if_neg (hoth x y e hx)]; exact b4⟩
            · intro x y z hx hy
              by_cases e : x = p / 16
              · simp [e] at hx
              · by_cases e' : y = p / 16
                · simp [e'] at hy
                · simp only [if_neg e, if_neg e'] at hx hy; exact h.inj _ _ _ hx hy
            · intro x hx hn
              rw [E3]
              by_cases e : x = p / 16
              · rw [if_pos ⟨rfl, e⟩]
              · simp only [if_neg e] at hn
                rw [if_neg (by omega), E1, if_neg (by omega)]
                exact h.top0 x hx hn
            · intro x y hx
              by_cases e : x = p / 16
              · simp [e] at hx
              · simp only [if_neg e] at hx
                rw [E3, if_neg (by omega), E1, if_neg (by omega)]
                exact h.top1 x y hx
            · intro x y z hx hz2
              by_cases e : x = p / 16
              · simp [e] at hx
              · simp only [if_neg e] at hx
                have h5 := (h.tb _ _ hx).2.2.1
                have h6 := hoth x y e hx
                rw [E3, if_neg (by omega), E1, if_neg (by omega)]
                exact h.low x y z hx hz2
            · intro x y hx
              by_cases e : x = p / 16
              · simp [e] at hx
              · simp only [if_neg e] at hx
                have h5 := (h.tb _ _ hx).2.2.1
                have h6 := hoth x y e hx
                obtain ⟨z, hz1, hz2⟩ := h.ne _ _ hx
                exact ⟨z, hz1, by rw [E3, if_neg (by omega), E1, if_neg (by omega)]; exact hz2⟩
            · have c := h.cnt
              rw [N3]
              have b1 := nfree_take (R := M3.R) (R' := M.R) (n := M.n) a2 (by rw [R3, R2, if_pos rfl]; decide) (by rw [a4]; decide) (fun x hx => by rw [R3, R2, if_neg hx])
              have b2 := tcnt_drop (T := T) (T' := fun x => if x = p / 16 then none else T x) (n := 16) (k := p / 16) (by omega) (by rw [hT]; rfl) (by simp) (fun x hx => by simp [hx])
              omega
          have hfin : M3 = (M1.setR k 0).put r (p / 16) 0 0 := by
            rw [hM3, hM2, hfr]
            have : M1.R k - 1 = 0 := by rw [R1, a4]; rfl
            rw [this]
          refine ⟨.inr ⟨tree, by rw [← hM1]; exact hfin, fun y hy hyp => by
            have := he' y hy
            rw [hgk, E1, if_neg (by omega)] at this
            exact this⟩, N3, ?_, ?_⟩
          · rw [Mm.lk_tree tree hp]; simp
          · intro q hq hqp
            rw [Mm.lk_tree tree hq, Mm.lk_tree h hq]
            by_cases e : q / 16 = p / 16
            · simp only [if_pos e]
              rw [e, hT]
              have := he' (q % 16) (by omega)
              rw [hgk, E1, if_neg (by omega)] at this
              exact (h.low _ _ _ hT (by omega) this).symm
            · simp only [if_neg e]
              cases hTq : T (q / 16) with
              | none => rfl
              | some z =>
                have h5 := (h.tb _ _ hTq).2.2.1
                have h6 := hoth _ _ e hTq
                simp only
                rw [E3, if_neg (by omega), E1, if_neg (by omega)]
        · rw [if_neg he]
          have he' : ∃ y, y < 16 ∧ (M1.ent k y).1 ≠ 0 := by
            apply Classical.byContradiction
            intro hh
            apply he
            rw [Mm.empty_iff]
            intro y hy
            rw [hgk]
            apply Classical.byContradiction
            intro h3
            exact hh ⟨y, hy, h3⟩
          have tree : M1.Tree r T cu := by
            refine ⟨by rw [N1]; exact hn2, by rw [N1]; exact h.rn, by rw [R1]; exact h.rR, ?_, h.inj, ?_, ?_, ?_, ?_, ?_⟩
            · intro x y hx; rw [N1, R1]; exact h.tb x y hx
            · intro x hx hn; rw [E1, if_neg (by omega)]; exact h.top0 x hx hn
            · intro x y hx; rw [E1, if_neg (by omega)]; exact h.top1 x y hx
            · intro x y z hx hz2
              rw [E1]
              split
              · intro _; rfl
              · exact h.low x y z hx hz2
            · intro x y hx
              by_cases e : x = p / 16
              · subst e
                rw [hT] at hx; cases hx
                exact he'
              · obtain ⟨z, hz1, hz2⟩ := h.ne _ _ hx
                have h6 : y ≠ k := by intro e2; subst e2; exact e (h.inj _ _ _ hx hT)
                exact ⟨z, hz1, by rw [E1, if_neg (by omega)]; exact hz2⟩
            · rw [R1, N1]; exact h.cnt
          refine ⟨.inl ⟨tree, hM1⟩, N1, ?_, ?_⟩
          · rw [Mm.lk_tree tree hp, hT]; simp only; rw [E1, if_pos ⟨rfl, rfl⟩]
          · intro q hq hqp
            rw [Mm.lk_tree tree hq, Mm.lk_tree h hq]
            cases hTq : T (q / 16) with
            | none => rfl
            | some z =>
              simp only [E1]
              rw [if_neg]
              rintro ⟨e1, e2⟩
              subst e1
              have := h.inj _ _ _ hT hTq
              omega
  · left
    have : M.unmap r page = (M, 0, 2) := by simp [Mm.unmap, h.walk_out hpg]
    rw [this]
    exact ⟨by simp, rfl, fun p hq hp => by omega⟩

theorem Mm.put_z {M : Mm} {t : Int} {i fl fr x j : Nat} (h : M.B x (4 * j + 1) = 0) : (M.put t i fl fr).B x (4 * j + 1) = 0 := by
  unfold Mm.put
  split
  · unfold Mm.wr
    simp only
    split
    · rename_i hc
      obtain ⟨_, c1, c2⟩ := hc
      have e : j = i := by simp [ByteArray.size] at c2; omega
      subst e
      have : 4 * j + 1 - 4 * j = 1 := by omega
      rw [this]; rfl
    · exact h
  · exact h
theorem own_page_new {M N : Mm} {r : Nat} {T T' : Nat → Option Nat} {p fr : Nat} {fl : Int} (hp : p < 256) (h0 : (M.lk r p).1 = 0) (h1 : N.lk r p = (fl, (fr : Int))) (hfl : fl ≠ 0) (h2 : ∀ q, q < 256 → q ≠ p → N.lk r q = M.lk r q) (x : Nat) :
    own N r T' x + cn (fun i => T i == some x) 16 = own M r T x + cn (fun i => T' i == some x) 16 + if x = fr then 1 else 0 := by
  have := cn_upd (P := fun p => decide ((N.lk r p).1 ≠ 0 ∧ (N.lk r p).2 = (x : Int))) (Q := fun p => decide ((M.lk r p).1 ≠ 0 ∧ (M.lk r p).2 = (x : Int))) (p := p) 256 hp (fun q hq hqp => by rw [h2 q hq hqp])
  have e1 : decide ((M.lk r p).1 ≠ 0 ∧ (M.lk r p).2 = (x : Int)) = false := by simp [h0]
  have e2 : decide ((N.lk r p).1 ≠ 0 ∧ (N.lk r p).2 = (x : Int)) = decide (x = fr) := by
    rw [h1]
    by_cases e : x = fr
    · subst e; simp [hfl]
    · have : ¬ ((fr : Int) = (x : Int)) := by omega
      simp [e, this]
  simp only [e1, e2] at this
  unfold own
  by_cases e : x = fr
  · subst e; simp at this ⊢; omega
  · simp [e] at this ⊢; omega
theorem own_tab_new {T : Nat → Option Nat} {i t : Nat} (hi : i < 16) (h0 : T i = none) (x : Nat) : cn (fun j => (if j = i then some t else T j) == some x) 16 = cn (fun j => T j == some x) 16 + if x = t then 1 else 0 := by
  have := cn_upd (P := fun j => (if j = i then some t else T j) == some x) (Q := fun j => T j == some x) (p := i) 16 hi (fun q hq hqp => by simp [hqp])
  have e1 : (T i == some x) = false := by rw [h0]; rfl
  have e2 : ((if i = i then some t else T i) == some x) = decide (x = t) := by
    by_cases e : x = t
    · subst e; simp
    · have : ¬ t = x := fun h => e h.symm
      simp [e, this]
  simp only [e1, e2] at this
  by_cases e : x = t
  · subst e; simp at this ⊢; omega
  · have e3 : ¬ t = x := fun h => e h.symm
    simp [e] at this ⊢
    rw [if_neg e3] at this
    exact this
theorem own_tab_old {T : Nat → Option Nat} {i t : Nat} (hi : i < 16) (h0 : T i = some t) (x : Nat) : cn (fun j => T j == some x) 16 = cn (fun j => (if j = i then none else T j) == some x) 16 + if x = t then 1 else 0 := by
  have h := own_tab_new (T := fun j => if j = i then none else T j) (t := t) hi (by simp) x
  rw [← h]
  refine cn_congr 16 (fun j _ => ?_)
  by_cases e : j = i
  · subst e; simp [h0]
  · simp [e]
/-- What a map leaves alone. -/
structure Mm.Alone (M N : Mm) (r : Nat) (T : Nat → Option Nat) (L : Sps) : Prop where
  n : N.n = M.n
  lk : ∀ b ∈ L, ∀ q, q < 256 → N.lk b.1 q = M.lk b.1 q
  R : ∀ x, 0 < M.R x → x ≠ r → (∀ i, T i ≠ some x) → N.R x = M.R x
  B : ∀ x, 0 < M.R x → x ≠ r → (∀ i, T i ≠ some x) → ∀ o, N.B x o = M.B x o
  le1 : (∀ x, M.R x ≤ 1) → ∀ x, N.R x ≤ 1
  room : nfree M.R M.n ≤ nfree N.R M.n + 1
/-- A page is mapped to a frame that is there. -/
theorem Mm.Good.map {M : Mm} {r : Nat} {T : Nat → Option Nat} {L : Sps} {E : Nat → Nat} {fr : Nat} (h : M.Good ((r, T) :: L) (plus E fr)) (hfr : fr < M.n) (page flags : Int) :
    ((M.map r page fr flags).2 ≠ 0 ∧ (M.map r page fr flags).1 = M) ∨
    ((M.map r page fr flags).2 = 0 ∧ ∃ (p fl : Nat) (T' : Nat → Option Nat), page = p ∧ flags = fl ∧ p < 256 ∧ fl ≤ 7 ∧ fl % 2 = 1 ∧ (M.lk r p).1 = 0 ∧ (M.map r page fr flags).1.Good ((r, T') :: L) E ∧ (M.map r page fr flags).1.lk r p = ((fl : Int), (fr : Int)) ∧
      (∀ q, q < 256 → q ≠ p → (M.map r page fr flags).1.lk r q = M.lk r q) ∧ M.Alone (M.map r page fr flags).1 r T L) := by
  have hT := h.tree
  obtain ⟨cu, hU⟩ := hT.tree
  rcases Mm.map_cases hU page fr flags with ⟨a, b⟩ | ⟨a, p, fr', fl, rfl, hfr', rfl, hp, hfr2, hf7, hf2, hl0, hc⟩
  · exact .inl ⟨a, b⟩
  have e : fr' = fr := by omega
  subst e
  rcases Mm.map_law hU p fr' fl with ⟨h1, _⟩ | ⟨_, p', hp', hp2, hf0, _, _, hn', hlk, hoth⟩
  · exact absurd a h1
  have e : p' = p := by omega
  subst e
  right
  have hfl0 : (fl : Int) ≠ 0 := by omega
  refine ⟨a, p', fl, ?_⟩
  rcases hc with ⟨t, ht, hN⟩ | ⟨ht, t, hl, hN⟩
  · obtain ⟨b1, b2, b3, b4⟩ := hT.tb _ _ ht
    rw [hN] at hn' hlk hoth ⊢
    have g1 := (Mm.map_old hU ht (j := p' % 16) (fl := fl) (fr := fr') (by omega) (by omega) (by omega) (by omega)).1
    have hTre : (M.put t (p' % 16) fl fr').Tre r T := g1.tre (fun i hi => Mm.put_z (hT.z1 i hi)) (fun i k j e hj => Mm.put_z (hT.z2 i k j e hj))
    have hne : ∀ x, (∀ i, T i ≠ some x) → ∀ o, (M.put t (p' % 16) fl fr').B x o = M.B x o := fun x hx o => Mm.put_B _ _ _ _ _ _ _ (fun e => hx _ (e ▸ ht))
    have K := fun b hb => h.other (N := M.put t (p' % 16) fl fr') (Mm.put_n _ _ _ _ _) (fun x hx h1 h2 h3 => by rw [Mm.put_R]; exact h1) (fun x hx h1 h2 h3 => .inl (hne x h3)) (b := b) hb
    refine ⟨T, rfl, rfl, hp, hf7, hf2, hl0, ⟨by rw [hn']; exact h.n2, fun b hb => ?_, fun b hb q hq h0 => ?_, fun x hx => ?_⟩, hlk, hoth, ⟨hn', fun b hb => (K b hb).2, fun x _ _ _ => by rw [Mm.put_R], fun x _ _ hx => hne x hx, fun h1 x => by rw [Mm.put_R]; exact h1 x, by rw [Mm.put_R]; omega⟩⟩
    · rcases List.mem_cons.1 hb with rfl | hb
      · exact hTre
      · exact (K b hb).1
    · rcases List.mem_cons.1 hb with rfl | hb
      · by_cases e : q = p'
        · subst e
          simp only at h0 ⊢
          rw [hlk, hn']
          exact ⟨fl, fr', rfl, hfr, hf7, hf2⟩
        · simp only at h0 ⊢
          rw [hoth q hq e] at h0 ⊢
          rw [hn']
          exact h.pg _ List.mem_cons_self q hq h0
      · rw [(K b hb).2 q hq] at h0 ⊢
        rw [hn']
        exact h.pg b (List.mem_cons_of_mem _ hb) q hq h0
    · rw [hn'] at hx
      have c := h.cnt x hx
      have o := own_page_new (T := T) (T' := T) hp hl0 hlk hfl0 hoth x
      have s := osum_congr (M := M) (x := x) (fun b hb => own_congr (K b hb).2 x)
      simp only [osum] at c ⊢
      rw [Mm.put_R, c, s]
      unfold plus
      omega
  · obtain ⟨hk, hz, -⟩ := Mm.least_spec hl
    obtain ⟨f1, f2, f3⟩ := h.free0 hk hz
    rw [hN] at hn' hlk hoth ⊢
    have g2 := (Mm.map_new hU (i := p' / 16) (by omega) ht hl (j := p' % 16) (fl := fl) (fr := fr') (by omega) (by omega) (by omega) (by omega)).2.1
    have hkr : t ≠ r := by intro e; subst e; have := hT.rR; omega
    have hkT : ∀ i, T i ≠ some t := by intro i e; have := (hT.tb _ _ e).2.2.2; omega
    have htf : t ≠ fr' := by intro e; subst e; rw [plus_eq] at f2; omega
    obtain ⟨N, hNe⟩ : ∃ N, N = ((M.alloc t).put r (p' / 16) 1 t).put t (p' % 16) fl fr' := ⟨_, rfl⟩
    have hBx : ∀ x, x ≠ t → x ≠ r → ∀ o, N.B x o = M.B x o := fun x h1 h2 o => by rw [hNe, Mm.put_B _ _ _ _ _ _ _ h1, Mm.put_B _ _ _ _ _ _ _ h2]; simp [Mm.alloc, h1]
    have hRx : ∀ x, N.R x = if x = t then 1 else M.R x := fun x => by rw [hNe, Mm.put_R, Mm.put_R]; rfl
    have hzz : ∀ x j, (x = t ∨ M.B x (4 * j + 1) = 0) → N.B x (4 * j + 1) = 0 := fun x j hx => by
      rw [hNe]
      refine Mm.put_z (Mm.put_z ?_)
      rcases hx with e | e
      · simp [Mm.alloc, e]
      · unfold Mm.alloc; simp only; split
        · rfl
        · exact e
    rw [← hNe] at hn' hlk hoth g2 ⊢
    have hTre : N.Tre r (fun x => if x = p' / 16 then some t else T x) := g2.tre (fun i hi => hzz r i (.inr (hT.z1 i hi))) (fun i k j e hj => by
      by_cases e' : i = p' / 16
      · rw [if_pos e', Option.some.injEq] at e
        exact hzz k j (.inl e.symm)
      · rw [if_neg e'] at e
        exact hzz k j (.inr (hT.z2 i k j e hj)))
    have K := fun b hb => h.other (N := N) hn' (fun x hx h1 h2 h3 => by rw [hRx, if_neg (by intro e; subst e; omega)]; exact h1) (fun x hx h1 h2 h3 => .inl (hBx x (by intro e; subst e; omega) h2)) (b := b) hb
    refine ⟨fun x => if x = p' / 16 then some t else T x, rfl, rfl, hp, hf7, hf2, hl0, ⟨by rw [hn']; exact h.n2, fun b hb => ?_, fun b hb q hq h0 => ?_, fun x hx => ?_⟩, hlk, hoth, ⟨hn', fun b hb => (K b hb).2, fun x hx _ _ => by rw [hRx, if_neg (by intro e; subst e; omega)], fun x hx h1 _ => hBx x (by intro e; subst e; omega) h1, fun h1 x => by (rw [hRx]; split; exact Int.le_refl _; exact h1 x), by
      have := nfree_take (R := M.R) (R' := N.R) hk (by omega) (by rw [hRx, if_pos rfl]; decide) (fun i hi => by rw [hRx, if_neg hi])
      omega⟩⟩
    · rcases List.mem_cons.1 hb with rfl | hb
      · exact hTre
      · exact (K b hb).1
    · rcases List.mem_cons.1 hb with rfl | hb
      · by_cases e : q = p'
        · subst e
          simp only at h0 ⊢
          rw [hlk, hn']
          exact ⟨fl, fr', rfl, hfr, hf7, hf2⟩
        · simp only at h0 ⊢
          rw [hoth q hq e] at h0 ⊢
          rw [hn']
          exact h.pg _ List.mem_cons_self q hq h0
      · rw [(K b hb).2 q hq] at h0 ⊢
        rw [hn']
        exact h.pg b (List.mem_cons_of_mem _ hb) q hq h0
    · rw [hn'] at hx
      have c := h.cnt x hx
      have o := own_page_new (T := T) (T' := fun x => if x = p' / 16 then some t else T x) hp hl0 hlk hfl0 hoth x
      have o2 := own_tab_new (T := T) (t := t) (show p' / 16 < 16 by omega) ht x
      have s := osum_congr (M := M) (x := x) (fun b hb => own_congr (K b hb).2 x)
      simp only [osum] at c f3 ⊢
      rw [hRx, s]
      unfold plus at c f2
      by_cases e : x = t
      · subst e
        rw [if_pos rfl]
        rw [if_neg htf] at o f2
        rw [if_pos rfl] at o2
        omega
      · rw [if_neg e, c]
        rw [if_neg e] at o2
        omega
/-- A page is unmapped: its frame is had by who did it. -/
theorem Mm.Good.unmap {M : Mm} {r : Nat} {T : Nat → Option Nat} {L : Sps} {E : Nat → Nat} (h : M.Good ((r, T) :: L) E) (page : Int) :
    ((M.unmap r page).2.2 ≠ 0 ∧ (M.unmap r page).1 = M ∧ ∀ p : Nat, page = p → p < 256 → (M.lk r p).1 = 0) ∨
    ((M.unmap r page).2.2 = 0 ∧ ∃ (p fl fr : Nat) (T' : Nat → Option Nat), page = p ∧ p < 256 ∧ M.lk r p = ((fl : Int), (fr : Int)) ∧ fl ≠ 0 ∧ fr < M.n ∧ (M.unmap r page).2.1 = fr ∧ (M.unmap r page).1.Good ((r, T') :: L) (plus E fr) ∧ (M.unmap r page).1.lk r p = (0, 0) ∧
      (∀ q, q < 256 → q ≠ p → (M.unmap r page).1.lk r q = M.lk r q) ∧ M.Alone (M.unmap r page).1 r T L ∧ ∀ i k, T' i = some k → T i = some k) := by
  have hT := h.tree
  obtain ⟨cu, hU⟩ := hT.tree
  rcases Mm.unmap_exact hU page with ⟨a, b⟩ | ⟨a, p, rfl, hp, hl0, hfr, t, ht, hc, hn', hlk, hoth⟩
  · exact .inl ⟨a, b⟩
  right
  obtain ⟨fl, fr, hlf, hfn, hf7, hf2⟩ := h.pg _ List.mem_cons_self p hp hl0
  simp only at hlf
  refine ⟨a, p, fl, fr, ?_⟩
  have hfr' : (M.unmap r p).2.1 = fr := by rw [hfr, hlf]
  have hfl0 : (fl : Int) ≠ 0 := by omega
  obtain ⟨b1, b2, b3, b4⟩ := hT.tb _ _ ht
  have hl0' : ((M.unmap r p).1.lk r p).1 = 0 := by rw [hlk]
  rcases hc with ⟨g1, hN⟩ | ⟨g1, hN, -⟩
  · rw [hN] at hn' hlk hoth g1 hl0' ⊢
    have hTre : (M.put t (p % 16) 0 0).Tre r T := g1.tre (fun i hi => Mm.put_z (hT.z1 i hi)) (fun i k j e hj => Mm.put_z (hT.z2 i k j e hj))
    have hne : ∀ x, (∀ i, T i ≠ some x) → ∀ o, (M.put t (p % 16) 0 0).B x o = M.B x o := fun x hx o => Mm.put_B _ _ _ _ _ _ _ (fun e => hx _ (e ▸ ht))
    have K := fun b hb => h.other (N := M.put t (p % 16) 0 0) (Mm.put_n _ _ _ _ _) (fun x hx h1 h2 h3 => by rw [Mm.put_R]; exact h1) (fun x hx h1 h2 h3 => .inl (hne x h3)) (b := b) hb
    refine ⟨T, rfl, hp, hlf, by omega, hfn, hfr', ⟨by rw [hn']; exact h.n2, fun b hb => ?_, fun b hb q hq h0 => ?_, fun x hx => ?_⟩, hlk, hoth, ⟨hn', fun b hb => (K b hb).2, fun x _ _ _ => by rw [Mm.put_R], fun x _ _ hx => hne x hx, fun h1 x => by rw [Mm.put_R]; exact h1 x, by rw [Mm.put_R]; omega⟩, fun i k e => e⟩
    · rcases List.mem_cons.1 hb with rfl | hb
      · exact hTre
      · exact (K b hb).1
    · rcases List.mem_cons.1 hb with rfl | hb
      · by_cases e : q = p
        · subst e
          exact absurd hl0' h0
        · simp only at h0 ⊢
          rw [hoth q hq e] at h0 ⊢
          rw [hn']
          exact h.pg _ List.mem_cons_self q hq h0
      · rw [(K b hb).2 q hq] at h0 ⊢
        rw [hn']
        exact h.pg b (List.mem_cons_of_mem _ hb) q hq h0
    · rw [hn'] at hx
      have c := h.cnt x hx
      have o := own_page_new (M := M.put t (p % 16) 0 0) (N := M) (T := T) (T' := T) hp hl0' hlf hfl0 (fun q hq hqp => (hoth q hq hqp).symm) x
      have s := osum_congr (M := M) (x := x) (fun b hb => own_congr (K b hb).2 x)
      simp only [osum] at c ⊢
      rw [Mm.put_R, c, s]
      unfold plus
      omega
  · rw [hN] at hn' hlk hoth g1 hl0' ⊢
    obtain ⟨N, hNe⟩ : ∃ N, N = ((M.put t (p % 16) 0 0).setR t 0).put r (p / 16) 0 0 := ⟨_, rfl⟩
    have hBx : ∀ x, x ≠ t → x ≠ r → ∀ o, N.B x o = M.B x o := fun x h1 h2 o => by rw [hNe, Mm.put_B _ _ _ _ _ _ _ h2]; exact Mm.put_B _ _ _ _ _ _ _ h1
    have hRx : ∀ x, N.R x = if x = t then 0 else M.R x := fun x => by
      rw [hNe, Mm.put_R]; unfold Mm.setR; simp only [Mm.put_R]
    have hzz : ∀ x j, M.B x (4 * j + 1) = 0 → N.B x (4 * j + 1) = 0 := fun x j hx => by
      rw [hNe]
      exact Mm.put_z (Mm.put_z (M := M) hx)
    rw [← hNe] at hn' hlk hoth g1 hl0' ⊢
    have hTre : N.Tre r (fun x => if x = p / 16 then none else T x) := g1.tre (fun i hi => hzz r i (hT.z1 i hi)) (fun i k j e hj => by
      by_cases e' : i = p / 16
      · rw [if_pos e'] at e; cases e
      · rw [if_neg e'] at e
        exact hzz k j (hT.z2 i k j e hj))
    have K := fun b hb => h.other (N := N) hn' (fun x hx h1 h2 h3 => by rw [hRx, if_neg (fun e => h3 _ (e ▸ ht))]; exact h1) (fun x hx h1 h2 h3 => .inl (hBx x (fun e => h3 _ (e ▸ ht)) h2)) (b := b) hb
    refine ⟨fun x => if x = p / 16 then none else T x, rfl, hp, hlf, by omega, hfn, hfr', ⟨by rw [hn']; exact h.n2, fun b hb => ?_, fun b hb q hq h0 => ?_, fun x hx => ?_⟩, hlk, hoth, ⟨hn', fun b hb => (K b hb).2, fun x _ _ hx => by rw [hRx, if_neg (fun e => hx _ (e ▸ ht))], fun x _ h1 hx => hBx x (fun e => hx _ (e ▸ ht)) h1, fun h1 x => by (rw [hRx]; split; exact (by decide); exact h1 x), by
      have := nfree_take (R := N.R) (R' := M.R) b2 (by rw [hRx, if_pos rfl]; decide) (by omega) (fun i hi => by rw [hRx, if_neg hi])
      omega⟩, fun i k e => by
      by_cases e' : i = p / 16
      · simp only [if_pos e'] at e; cases e
      · simp only [if_neg e'] at e; exact e⟩
    · rcases List.mem_cons.1 hb with rfl | hb
      · exact hTre
      · exact (K b hb).1
    · rcases List.mem_cons.1 hb with rfl | hb
      · by_cases e : q = p
        · subst e
          exact absurd hl0' h0
        · simp only at h0 ⊢
          rw [hoth q hq e] at h0 ⊢
          rw [hn']
          exact h.pg _ List.mem_cons_self q hq h0
      · rw [(K b hb).2 q hq] at h0 ⊢
        rw [hn']
        exact h.pg b (List.mem_cons_of_mem _ hb) q hq h0
    · rw [hn'] at hx
      have c := h.cnt x hx
      have o := own_page_new (M := N) (N := M) (T := fun x => if x = p / 16 then none else T x) (T' := T) hp hl0' hlf hfl0 (fun q hq hqp => (hoth q hq hqp).symm) x
      have o2 := own_tab_old (T := T) (t := t) (show p / 16 < 16 by omega) ht x
      have s := osum_congr (M := M) (x := x) (fun b hb => own_congr (K b hb).2 x)
      simp only [osum] at c ⊢
      rw [hRx, s]
      unfold plus
      by_cases e : x = t
      · subst e
        rw [if_pos rfl]
        rw [if_pos rfl] at o2
        rw [b4] at c
        omega
      · rw [if_neg e, c]
        rw [if_neg e] at o2
        omega
end Go.Proofs.Ytlbgnmcjdmdjpaa
open Go Go.Proofs
namespace Go.Proofs.Ytlbgnmcjdmdjpaa
structure Mm.Eqv (M N : Mm) : Prop where
  n : N.n = M.n
  R : N.R = M.R
  B : ∀ x, 0 < M.R x → N.B x = M.B x
theorem Mm.Eqv.refl (M : Mm) : M.Eqv M := ⟨rfl, rfl, fun _ _ => rfl⟩
theorem Mm.Eqv.symm {M N : Mm} (h : M.Eqv N) : N.Eqv M := ⟨h.n.symm, h.R.symm, fun x hx => (h.B x (by rw [h.R] at hx; exact hx)).symm⟩
theorem Mm.Eqv.trans {M N K : Mm} (h : M.Eqv N) (g : N.Eqv K) : M.Eqv K := ⟨g.n.trans h.n, g.R.trans h.R, fun x hx => (g.B x (by rw [h.R]; exact hx)).trans (h.B x hx)⟩
theorem Mm.Eqv.isUsed {M N : Mm} (h : M.Eqv N) (a : Int) : N.isUsed a = M.isUsed a := by unfold Mm.isUsed; rw [h.n, h.R]
theorem Mm.Eqv.ent {M N : Mm} (h : M.Eqv N) {x : Nat} (hx : 0 < M.R x) (i : Nat) : N.ent x i = M.ent x i := ent_B (fun o => by rw [h.B x hx])
theorem Mm.Eqv.get {M N : Mm} (h : M.Eqv N) (t : Int) (i : Nat) : N.get t i = M.get t i := by
  unfold Mm.get
  rw [h.isUsed]
  cases hu : M.isUsed t with
  | false => rfl
  | true =>
    obtain ⟨k, rfl, hk, hR⟩ := Mm.used_iff hu
    exact h.ent (by simpa using hR) i
theorem Mm.Eqv.wr {M N : Mm} (h : M.Eqv N) (k f : Nat) (s : ByteArray) : (M.wr k f s).Eqv (N.wr k f s) :=
  ⟨h.n, h.R, fun x hx => by funext o; simp only [Mm.wr]; rw [h.B x hx]⟩
theorem Mm.Eqv.put {M N : Mm} (h : M.Eqv N) (t : Int) (i fl fr : Nat) : (M.put t i fl fr).Eqv (N.put t i fl fr) := by
  unfold Mm.put
  rw [h.isUsed]
  split
  · exact h.wr _ _ _
  · exact h
theorem Mm.Eqv.check {M N : Mm} (h : M.Eqv N) (r p : Int) : N.check r p = M.check r p := by unfold Mm.check; rw [h.isUsed]
theorem Mm.Eqv.walk {M N : Mm} (h : M.Eqv N) (r p : Int) : N.walk r p = M.walk r p := by unfold Mm.walk; simp only [h.check, h.get]
theorem Mm.Eqv.lk {M N : Mm} (h : M.Eqv N) (r : Int) (p : Nat) : N.lk r p = M.lk r p := by unfold Mm.lk; simp only [h.get]
theorem Mm.Eqv.least {M N : Mm} (h : M.Eqv N) : N.least = M.least := by unfold Mm.least; rw [h.n, h.R]
theorem Mm.Eqv.alloc {M N : Mm} (h : M.Eqv N) (k : Nat) : (M.alloc k).Eqv (N.alloc k) :=
  ⟨h.n, by simp only [Mm.alloc, h.R], fun x hx => by
    funext o
    simp only [Mm.alloc] at hx ⊢
    by_cases e : x = k
    · simp [e]
    · rw [if_neg e] at hx ⊢
      rw [if_neg e, h.B x hx]⟩
theorem Mm.Eqv.setR {M N : Mm} (h : M.Eqv N) (k : Nat) (v : Int) (hk : 0 < M.R k) : (M.setR k v).Eqv (N.setR k v) :=
  ⟨h.n, by simp only [Mm.setR, h.R], fun x hx => by
    simp only [Mm.setR] at hx ⊢
    by_cases e : x = k
    · subst e; exact h.B x hk
    · rw [if_neg e] at hx; exact h.B x hx⟩
theorem Mm.used_pos {M : Mm} {a : Int} (h : M.isUsed a = true) : 0 < M.R a.toNat := by
  obtain ⟨k, rfl, hk, hR⟩ := Mm.used_iff h
  simpa using hR
theorem Mm.Eqv.free {M N : Mm} (h : M.Eqv N) (a : Int) : (M.free a).Eqv (N.free a) := by
  unfold Mm.free
  rw [h.isUsed]
  cases hu : M.isUsed a with
  | false => exact h
  | true => rw [h.R]; exact h.setR _ _ (Mm.used_pos hu)
theorem Mm.Eqv.share {M N : Mm} (h : M.Eqv N) (a : Int) : (M.share a).1.Eqv (N.share a).1 ∧ (N.share a).2 = (M.share a).2 := by
  unfold Mm.share
  rw [h.isUsed, h.R]
  cases hu : M.isUsed a with
  | false => exact ⟨h, rfl⟩
  | true =>
    by_cases e : M.R a.toNat = 1000
    · simp only [e, if_true]; exact ⟨h, trivial⟩
    · simp only [e, if_true, if_false]; exact ⟨h.setR _ _ (Mm.used_pos hu), trivial⟩
theorem Mm.Eqv.mapLow {M N : Mm} (h : M.Eqv N) (t : Int) (i fl fr : Nat) : (M.mapLow t i fl fr).1.Eqv (N.mapLow t i fl fr).1 ∧ (N.mapLow t i fl fr).2 = (M.mapLow t i fl fr).2 := by
  unfold Mm.mapLow
  rw [h.get]
  split
  · exact ⟨h.put _ _ _ _, rfl⟩
  · exact ⟨h, rfl⟩
theorem Mm.Eqv.map {M N : Mm} (h : M.Eqv N) (r p f fl : Int) : (M.map r p f fl).1.Eqv (N.map r p f fl).1 ∧ (N.map r p f fl).2 = (M.map r p f fl).2 := by
  unfold Mm.map
  rw [h.check, h.get, h.least]
  split
  · exact ⟨h, rfl⟩
  · split
    · exact ⟨h, rfl⟩
    · split
      · split
        · exact ⟨h, rfl⟩
        · exact ((h.alloc _).put _ _ _ _).mapLow _ _ _ _
      · exact h.mapLow _ _ _ _
theorem Mm.Eqv.empty {M N : Mm} (h : M.Eqv N) (t : Int) : N.empty t = M.empty t := by unfold Mm.empty; simp only [h.get]
theorem Mm.Eqv.cut {M N : Mm} (h : M.Eqv N) (r t : Int) (i j : Nat) : (M.cut r t i j).Eqv (N.cut r t i j) := by
  unfold Mm.cut
  rw [(h.put t j 0 0).empty]
  split
  · exact ((h.put _ _ _ _).free _).put _ _ _ _
  · exact h.put _ _ _ _
theorem Mm.Eqv.unmap {M N : Mm} (h : M.Eqv N) (r p : Int) : (M.unmap r p).1.Eqv (N.unmap r p).1 ∧ (N.unmap r p).2 = (M.unmap r p).2 := by
  unfold Mm.unmap
  rw [h.walk]
  split
  · exact ⟨h, rfl⟩
  · rw [h.get]; exact ⟨h.cut _ _ _ _, rfl⟩
theorem Mm.Eqv.unmaps {M N : Mm} (h : M.Eqv N) (r p : Int) : (M.unmaps r p).Eqv (N.unmaps r p) := by
  obtain ⟨a, b⟩ := h.unmap r p
  unfold Mm.unmaps
  rw [b]
  split
  · exact a.free _
  · exact a
theorem Mm.Eqv.maps {M N : Mm} (h : M.Eqv N) (r p f fl : Int) : (M.maps r p f fl).1.Eqv (N.maps r p f fl).1 ∧ (N.maps r p f fl).2 = (M.maps r p f fl).2 := by
  obtain ⟨a, b⟩ := h.map r p f fl
  unfold Mm.maps
  rw [b]
  split
  · exact ⟨a, rfl⟩
  · exact ⟨a.free _, rfl⟩
theorem Mm.Eqv.fresh {M N : Mm} (h : M.Eqv N) (r p fl : Int) : (M.fresh r p fl).1.Eqv (N.fresh r p fl).1 ∧ (N.fresh r p fl).2 = (M.fresh r p fl).2 := by
  unfold Mm.fresh
  rw [h.least]
  split
  · exact ⟨h, rfl⟩
  · obtain ⟨a, b⟩ := (h.alloc _).maps r p _ fl
    exact ⟨a, by rw [b]⟩
theorem Mm.Eqv.shared {M N : Mm} (h : M.Eqv N) (r p f fl : Int) : (M.shared r p f fl).1.Eqv (N.shared r p f fl).1 ∧ (N.shared r p f fl).2 = (M.shared r p f fl).2 := by
  obtain ⟨a, b⟩ := h.share f
  unfold Mm.shared
  rw [b]
  split
  · exact a.maps _ _ _ _
  · exact ⟨a, rfl⟩
theorem Mm.Eqv.write {M N : Mm} (h : M.Eqv N) (k : Int) (s : ByteArray) : (M.write k s).Eqv (N.write k s) := by
  unfold Mm.write
  rw [h.isUsed]
  split
  · exact h.wr _ _ _
  · exact h
theorem Mm.Eqv.filled {M N : Mm} (h : M.Eqv N) (r p fl : Int) (s : ByteArray) : (M.filled r p fl s).1.Eqv (N.filled r p fl s).1 ∧ (N.filled r p fl s).2 = (M.filled r p fl s).2 := by
  obtain ⟨a, b⟩ := h.fresh r p fl
  unfold Mm.filled
  rw [b, a.isUsed]
  split
  · exact ⟨a.write _ _, rfl⟩
  · exact ⟨a, rfl⟩
theorem Mm.Eqv.dropSt {M N : Mm} (h : M.Eqv N) (r : Int) : ∀ i, (M.dropSt r i).Eqv (N.dropSt r i)
  | 0 => h
  | i + 1 => by
    have ih := h.dropSt r i
    unfold Mm.dropSt
    rw [ih.get]
    split
    · exact ih
    · exact ih.free _
theorem Mm.Eqv.drop {M N : Mm} (h : M.Eqv N) (r : Int) : (M.drop r).1.Eqv (N.drop r).1 ∧ (N.drop r).2 = (M.drop r).2 := by
  have d := h.dropSt r 16
  unfold Mm.drop
  rw [h.check, d.isUsed]
  split
  · exact ⟨h, rfl⟩
  · exact ⟨d.free _, rfl⟩
theorem Mm.Eqv.undo {r : Int} : ∀ (U : List Und) {M N : Mm}, M.Eqv N → (M.undo r U).Eqv (N.undo r U)
  | [], _, _, h => h
  | .root :: U, _, _, h => Mm.Eqv.undo U (h.drop r).1
  | .page p :: U, _, _, h => Mm.Eqv.undo U (h.unmaps r p)
theorem Mm.Eqv.cutL {r : Int} : ∀ (l : List Int) {M N : Mm}, M.Eqv N → (M.cutL r l).Eqv (N.cutL r l)
  | [], _, _, h => h
  | p :: l, _, _, h => Mm.Eqv.cutL l (h.unmaps r p)
theorem Mm.Eqv.str {M N : Mm} (h : M.Eqv N) {k : Nat} (hk : 0 < M.R k) (a b : Nat) : N.str k a b = M.str k a b := by unfold Mm.str Mm.bytes; rw [h.B k hk]
theorem Mm.Eqv.rd {M N : Mm} (h : M.Eqv N) (k : Int) : N.rd k = M.rd k := by
  unfold Mm.rd
  rw [h.isUsed]
  cases hu : M.isUsed k with
  | false => rfl
  | true => exact h.str (Mm.used_pos hu) _ _
theorem Mm.Eqv.growU {r : Int} : ∀ (l : List Int) {M N : Mm} (U : List Und), M.Eqv N → (Mm.growU r M U l).1.Eqv (Mm.growU r N U l).1 ∧ (Mm.growU r N U l).2 = (Mm.growU r M U l).2
  | [], _, _, _, h => ⟨h, rfl⟩
  | p :: l, M, N, U, h => by
    obtain ⟨a, b⟩ := h.fresh r p 3
    unfold Mm.growU
    rw [b]
    split
    · exact Mm.Eqv.growU l _ a
    · exact ⟨Mm.Eqv.undo _ a, rfl⟩
theorem Mm.Eqv.fillU {r : Int} : ∀ (l : List (Int × Int × ByteArray)) {M N : Mm} (U : List Und), M.Eqv N → (Mm.fillU r M U l).1.Eqv (Mm.fillU r N U l).1 ∧ (Mm.fillU r N U l).2 = (Mm.fillU r M U l).2
  | [], _, _, _, h => ⟨h, rfl⟩
  | (p, fl, s) :: l, M, N, U, h => by
    obtain ⟨a, b⟩ := h.filled r p fl s
    unfold Mm.fillU
    rw [b]
    split
    · exact Mm.Eqv.fillU l _ a
    · exact ⟨Mm.Eqv.undo _ a, rfl⟩
theorem Mm.Eqv.forkStep {M N : Mm} (h : M.Eqv N) (r o p : Int) : (M.forkStep r o p).1.Eqv (N.forkStep r o p).1 ∧ (N.forkStep r o p).2 = (M.forkStep r o p).2 := by
  unfold Mm.forkStep
  rw [h.walk, h.rd]
  split
  · exact h.filled _ _ _ _
  · exact h.shared _ _ _ _
theorem Mm.Eqv.forkU {r o : Int} : ∀ (l : List Int) {M N : Mm} (U : List Und), M.Eqv N → (Mm.forkU r o M U l).1.Eqv (Mm.forkU r o N U l).1 ∧ (Mm.forkU r o N U l).2 = (Mm.forkU r o M U l).2
  | [], _, _, _, h => ⟨h, rfl⟩
  | p :: l, M, N, U, h => by
    obtain ⟨a, b⟩ := h.forkStep r o p
    unfold Mm.forkU
    rw [b]
    split
    · exact Mm.Eqv.forkU l _ a
    · exact ⟨Mm.Eqv.undo _ a, rfl⟩
theorem Mm.Eqv.pgTo {M N : Mm} (h : M.Eqv N) (r : Int) (i : Nat) : N.pgTo r i = M.pgTo r i := by
  rw [Mm.pgTo_pgL, Mm.pgTo_pgL]
  exact Mm.pgL_congr _ (fun p _ => by rw [h.lk])
theorem Mm.Eqv.pgs {M N : Mm} (h : M.Eqv N) (r : Int) : N.pgs r = M.pgs r := by unfold Mm.pgs; rw [h.pgTo]
theorem Mm.Eqv.dropSp {M N : Mm} (h : M.Eqv N) (r : Int) : (M.dropSp r).1.Eqv (N.dropSp r).1 ∧ (N.dropSp r).2 = (M.dropSp r).2 := by
  unfold Mm.dropSp
  rw [h.check, h.pgs]
  split
  · exact (Mm.Eqv.cutL _ h).drop r
  · exact ⟨h, rfl⟩
theorem Mm.Eqv.exec {M N : Mm} (h : M.Eqv N) (t d : ByteArray) : (M.exec t d).1.Eqv (N.exec t d).1 ∧ (N.exec t d).2 = (M.exec t d).2 := by
  unfold Mm.exec
  rw [h.least]
  split
  · exact ⟨h, rfl⟩
  · obtain ⟨a, b⟩ := Mm.Eqv.fillU (imgItems t d) [.root] (h.alloc _)
    exact ⟨a, by rw [b]⟩
theorem Mm.Eqv.fork {M N : Mm} (h : M.Eqv N) (o : Int) : (M.fork o).1.Eqv (N.fork o).1 ∧ (N.fork o).2 = (M.fork o).2 := by
  unfold Mm.fork
  rw [h.least]
  cases M.least with
  | none => exact ⟨h, rfl⟩
  | some k =>
    simp only
    rw [(h.alloc k).pgs]
    generalize (M.alloc k).pgs o = l
    obtain ⟨a, b⟩ := Mm.Eqv.forkU (r := k) (o := o) l [.root] (h.alloc k)
    exact ⟨a, by rw [b]⟩
theorem Mm.Eqv.grow {M N : Mm} (h : M.Eqv N) (s : Spc) (n : Int) : (M.grow s n).1.Eqv (N.grow s n).1 ∧ (N.grow s n).2 = (M.grow s n).2 := by
  obtain ⟨a, b⟩ := Mm.Eqv.growU (r := s.root) (upFrom s.end_ n.toNat) [] h
  unfold Mm.grow
  rw [b]
  split
  · exact ⟨h, rfl⟩
  · split
    · exact ⟨Mm.Eqv.cutL _ a, rfl⟩
    · exact ⟨a, b⟩
theorem Mm.Eqv.good {M N : Mm} (h : M.Eqv N) {L : Sps} {E : Nat → Nat} (g : M.Good L E) : N.Good L E :=
  (g.bytes h.n (fun x _ => by rw [h.R]) (fun x hx o => by rw [h.B x (by have := (g.tfr hx).2.1; omega)])).1
end Go.Proofs.Ytlbgnmcjdmdjpaa
open Go Go.Proofs
namespace Go.Proofs.Ytlbgnmcjdmdjpaa
theorem Mm.put_at {M : Mm} {t : Nat} (hu : M.isUsed t = true) (i fl fr o : Nat) : (M.put t i fl fr).B t o = if 4 * i ≤ o ∧ o < 4 * i + 4 then ([UInt8.ofNat fl, 0, UInt8.ofNat (fr / 256), UInt8.ofNat fr][o - 4 * i]?).getD 0 else M.B t o := by
  unfold Mm.put
  rw [hu]
  simp only [if_true, Mm.wr, Int.toNat_natCast, true_and]
  rfl
theorem zero4 {M : Mm} {t j : Nat} (h : M.ent t j = (0, 0)) (hz : M.B t (4 * j + 1) = 0) (o : Nat) (h1 : 4 * j ≤ o) (h2 : o < 4 * j + 4) : M.B t o = 0 := by
  simp only [Mm.ent, Prod.mk.injEq] at h
  obtain ⟨a, b⟩ := h
  have c0 : M.B t (4 * j) = 0 := UInt8.toNat_inj.1 (by show (M.B t (4 * j)).toNat = 0; omega)
  have c2 : M.B t (4 * j + 2) = 0 := UInt8.toNat_inj.1 (by show (M.B t (4 * j + 2)).toNat = 0; omega)
  have c3 : M.B t (4 * j + 3) = 0 := UInt8.toNat_inj.1 (by show (M.B t (4 * j + 3)).toNat = 0; omega)
  have : o = 4 * j ∨ o = 4 * j + 1 ∨ o = 4 * j + 2 ∨ o = 4 * j + 3 := by omega
  rcases this with rfl | rfl | rfl | rfl <;> assumption
/-- Bytes 0 are put again where they were. -/
theorem put_back {M N : Mm} {t j fl fr : Nat} (hM : M.isUsed t = true) (hN : N.isUsed t = true) (hB : N.B t = (M.put t j fl fr).B t) (h : M.ent t j = (0, 0)) (hz : M.B t (4 * j + 1) = 0) : (N.put t j 0 0).B t = M.B t := by
  funext o
  rw [Mm.put_at hN, hB, Mm.put_at hM]
  split
  · rename_i hc
    rw [zero4 h hz o hc.1 hc.2]
    have : o - 4 * j = 0 ∨ o - 4 * j = 1 ∨ o - 4 * j = 2 ∨ o - 4 * j = 3 := by omega
    rcases this with e | e | e | e <;> rw [e] <;> rfl
  · rfl
/-- A page that was mapped is unmapped, whatever was written to it. -/
theorem Mm.Good.map_back {M : Mm} {r : Nat} {T : Nat → Option Nat} {L : Sps} {E : Nat → Nat} {fr : Nat} (h : M.Good ((r, T) :: L) (plus E fr)) (hfr : fr < M.n) (page flags : Int) (h0 : (M.map r page fr flags).2 = 0) {N : Mm}
    (hn : N.n = (M.map r page fr flags).1.n) (hR : N.R = (M.map r page fr flags).1.R) (hB : ∀ x, x ≠ fr → N.B x = (M.map r page fr flags).1.B x) :
    (N.unmap r page).2 = ((fr : Int), 0) ∧ (N.unmap r page).1.n = M.n ∧ (N.unmap r page).1.R = M.R ∧ (∀ x, x ≠ fr → 0 < M.R x → (N.unmap r page).1.B x = M.B x) ∧ (N.unmap r page).1.B fr = N.B fr := by
  have hT := h.tree
  obtain ⟨cu, hU⟩ := hT.tree
  have hG := (h.map hfr page flags).resolve_left (fun g => g.1 h0)
  obtain ⟨-, -, -, T0, -, -, -, -, -, -, hG0, -, -, hAl⟩ := hG
  rcases Mm.map_cases hU page fr flags with ⟨a, _⟩ | ⟨a, p, fr', fl, rfl, hfr', rfl, hp, hfr2, hf7, hf2, hl0, hc⟩
  · exact absurd h0 a
  have e : fr' = fr := by omega
  subst e
  rcases Mm.map_law hU p fr' fl with ⟨h1, _⟩ | ⟨_, p', hp', hp2, hf0, _, _, hn', hlk, hoth⟩
  · exact absurd a h1
  have e : p' = p := by omega
  subst e
  have hfrR : 0 < M.R fr' := by have := h.cnt fr' hfr; rw [plus_eq] at this; omega
  have hap := h.apart (x := fr') (by rw [plus_eq]; omega)
  have hfl0 : (fl : Int) ≠ 0 := by omega
  have hlkM := Mm.lk_tree hU hp
  rcases hc with ⟨t, ht, hN⟩ | ⟨ht, t, hl, hN⟩
  · obtain ⟨b1, b2, b3, b4⟩ := hT.tb _ _ ht
    rw [hN] at hn hR hB hn' hlk hoth
    have htf : t ≠ fr' := fun e => hap.2 _ (e ▸ ht)
    have hrf : r ≠ fr' := fun e => hap.1 e.symm
    have g1 := (Mm.map_old hU ht (j := p' % 16) (fl := fl) (fr := fr') (by omega) (by omega) (by omega) (by omega)).1
    have hTP : (M.put t (p' % 16) fl fr').Tre r T := g1.tre (fun i hi => Mm.put_z (hT.z1 i hi)) (fun i k j e hj => Mm.put_z (hT.z2 i k j e hj))
    have hTN := hTP.keep (N := N) hn (by rw [hR, Mm.put_R]; exact hT.rR) (fun i k e => by rw [hR, Mm.put_R]; exact (hT.tb i k e).2.2.2) (fun o => by rw [hB r hrf]) (fun i k e o => by rw [hB k (fun e' => hap.2 i (e' ▸ e))])
    obtain ⟨cu', hU'⟩ := hTN.1.tree
    have hlkN : N.lk r p' = ((fl : Int), (fr' : Int)) := by rw [hTN.2 p' hp, hlk]
    rw [ht] at hlkM
    simp only at hlkM
    rw [hlkM] at hl0
    have hentM : M.ent t (p' % 16) = (0, 0) := hT.low _ _ _ ht (by omega) hl0
    have huM : M.isUsed t = true := Mm.isUsed_nat b2 (by omega)
    have huN : N.isUsed t = true := Mm.isUsed_nat (by rw [hn, Mm.put_n]; exact b2) (by rw [hR, Mm.put_R]; omega)
    rcases Mm.unmap_exact hU' p' with ⟨_, _, q⟩ | ⟨k0, p, hpp, hp, _, hk1, t', ht', hcc, k2, _, _⟩
    · have := q p' rfl hp; rw [hlkN] at this; exact absurd this hfl0
    have e : p = p' := by omega
    subst e
    rw [ht] at ht'
    cases ht'
    have hres : (N.unmap r p).2 = ((fr' : Int), 0) := by
      rw [Prod.ext_iff]; exact ⟨by rw [hk1, hlkN], k0⟩
    rcases hcc with ⟨_, hK⟩ | ⟨_, _, hz⟩
    · refine ⟨hres, by rw [k2, hn, Mm.put_n], by rw [hK, Mm.put_R, hR, Mm.put_R], fun x hx hRx => ?_, ?_⟩
      · rw [hK]
        by_cases e : x = t
        · subst e
          exact put_back huM huN (hB x hx) hentM (hT.z2 _ _ _ ht (by omega))
        · funext o
          rw [Mm.put_B _ _ _ _ _ _ _ e, hB x hx, Mm.put_B _ _ _ _ _ _ _ e]
      · rw [hK]; funext o; rw [Mm.put_B _ _ _ _ _ _ _ (Ne.symm htf)]
    · exfalso
      obtain ⟨j, hj, hne⟩ := hT.ne _ _ ht
      have hjp : j ≠ p % 16 := by intro e; subst e; rw [hentM] at hne; exact hne rfl
      have e1 : N.ent t j = (M.put t (p % 16) fl fr').ent t j := ent_B (fun o => by rw [hB t htf])
      have e2 := Mm.put_ent (M := M) b2 (by omega) (p % 16) fl fr' t j (by omega) (by omega)
      rw [if_neg (by omega)] at e2
      exact hne (by rw [← e2, ← e1]; exact hz j hj hjp)
  · obtain ⟨hk, hz, -⟩ := Mm.least_spec hl
    obtain ⟨f1, f2, f3⟩ := h.free0 hk hz
    rw [hN] at hn hR hB hn' hlk hoth
    obtain ⟨-, g2, -, g4, g5, -, -⟩ := Mm.map_new hU (i := p' / 16) (by omega) ht hl (j := p' % 16) (fl := fl) (fr := fr') (by omega) (by omega) (by omega) (by omega)
    have hkr : t ≠ r := by intro e; subst e; have := hT.rR; omega
    have hkT : ∀ i, T i ≠ some t := by intro i e; have := (hT.tb _ _ e).2.2.2; omega
    have htf : t ≠ fr' := by intro e; subst e; omega
    have hrf : r ≠ fr' := fun e => hap.1 e.symm
    obtain ⟨P, hP⟩ : ∃ P, P = ((M.alloc t).put r (p' / 16) 1 t).put t (p' % 16) fl fr' := ⟨_, rfl⟩
    rw [← hP] at hn hR hB hn' hlk hoth g2 g4 g5
    have hRP : ∀ x, P.R x = if x = t then 1 else M.R x := fun x => by rw [hP, Mm.put_R, Mm.put_R]; rfl
    have hBP : ∀ x, x ≠ t → x ≠ r → P.B x = M.B x := fun x h1 h2 => by funext o; rw [hP, Mm.put_B _ _ _ _ _ _ _ h1, Mm.put_B _ _ _ _ _ _ _ h2]; simp [Mm.alloc, h1]
    have hBr : P.B r = ((M.alloc t).put r (p' / 16) 1 t).B r := by funext o; rw [hP, Mm.put_B _ _ _ _ _ _ _ (Ne.symm hkr)]
    have hzz : ∀ x j, (x = t ∨ M.B x (4 * j + 1) = 0) → P.B x (4 * j + 1) = 0 := fun x j hx => by
      rw [hP]
      refine Mm.put_z (Mm.put_z ?_)
      rcases hx with e | e
      · simp [Mm.alloc, e]
      · unfold Mm.alloc; simp only; split
        · rfl
        · exact e
    have hTP : P.Tre r (fun x => if x = p' / 16 then some t else T x) := g2.tre (fun i hi => hzz r i (.inr (hT.z1 i hi))) (fun i k j e hj => by
      by_cases e' : i = p' / 16
      · rw [if_pos e', Option.some.injEq] at e
        exact hzz k j (.inl e.symm)
      · rw [if_neg e'] at e
        exact hzz k j (.inr (hT.z2 i k j e hj)))
    have hTN := hTP.keep (N := N) hn (by rw [hR]; exact hTP.rR) (fun i k e => by rw [hR]; exact (hTP.tb i k e).2.2.2) (fun o => by rw [hB r hrf]) (fun i k e o => by
      rw [hB k]
      intro e2
      subst e2
      by_cases e' : i = p' / 16
      · rw [if_pos e', Option.some.injEq] at e
        exact htf e
      · rw [if_neg e'] at e
        exact hap.2 i e)
    obtain ⟨cu', hU'⟩ := hTN.1.tree
    have hlkN : N.lk r p' = ((fl : Int), (fr' : Int)) := by rw [hTN.2 p' hp, hlk]
    rcases Mm.unmap_exact hU' p' with ⟨_, _, q⟩ | ⟨k0, p, hpp, hp, _, hk1, t', ht', hcc, k2, _, _⟩
    · have := q p' rfl hp; rw [hlkN] at this; exact absurd this hfl0
    have e : p = p' := by omega
    subst e
    simp only [if_true, Option.some.injEq] at ht'
    subst ht'
    have hres : (N.unmap r p).2 = ((fr' : Int), 0) := by
      rw [Prod.ext_iff]; exact ⟨by rw [hk1, hlkN], k0⟩
    have huN : N.isUsed t = true := Mm.isUsed_nat (by rw [hn, hn']; exact hk) (by rw [hR, hRP, if_pos rfl]; decide)
    have hNt : ∀ j, N.ent t j = P.ent t j := fun j => ent_B (fun o => by rw [hB t htf])
    rcases hcc with ⟨hTK, hK⟩ | ⟨_, hK, _⟩
    · exfalso
      obtain ⟨j, hj, hne⟩ := hTK.ne (p / 16) t (by simp)
      rw [hK] at hne
      have e2 := Mm.put_ent (M := N) (t := t) (by rw [hn, hn']; exact hk) (by rw [hR, hRP, if_pos rfl]; decide) (p % 16) 0 0 t j (by omega) (by omega)
      rw [e2] at hne
      by_cases e : j = p % 16
      · rw [if_pos ⟨rfl, e⟩] at hne; exact hne rfl
      · rw [if_neg (by omega), hNt, g5 j hj e] at hne; exact hne rfl
    · have hRK : (N.unmap r p).1.R = M.R := by
        rw [hK, Mm.put_R]
        funext x
        simp only [Mm.setR, Mm.put_R]
        by_cases e : x = t
        · subst e; rw [if_pos rfl, f1]
        · rw [if_neg e, hR, hRP, if_neg e]
      refine ⟨hres, by rw [k2, hn, hn'], hRK, fun x hx hRx => ?_, ?_⟩
      · have hxt : x ≠ t := by intro e; subst e; omega
        rw [hK]
        by_cases e : x = r
        · subst e
          have hu1 : (M.alloc t).isUsed x = true := Mm.isUsed_nat hT.rn (by simp only [Mm.alloc, if_neg (Ne.symm hkr)]; exact hRx)
          have hu2 : ((N.put t (p % 16) 0 0).setR t 0).isUsed x = true := Mm.isUsed_nat (by show x < (N.put t (p % 16) 0 0).n; rw [Mm.put_n, hn, hn']; exact hT.rn) (by
            show 0 < (if x = t then (0 : Int) else (N.put t (p % 16) 0 0).R x)
            rw [if_neg hxt, Mm.put_R, hR, hRP, if_neg hxt]; exact hRx)
          have hal : (M.alloc t).B x = M.B x := by funext o; simp [Mm.alloc, hxt]
          have hb := put_back (M := M.alloc t) (N := (N.put t (p % 16) 0 0).setR t 0) (t := x) (j := p / 16) (fl := 1) (fr := t) hu1 hu2 (by
            show (N.put t (p % 16) 0 0).B x = _
            funext o
            rw [Mm.put_B _ _ _ _ _ _ _ hxt, hB x hx, hBr]) (by rw [Mm.alloc_ent, if_neg hxt]; exact hT.top0 _ (by omega) ht) (by rw [hal]; exact hT.z1 _ (by omega))
          rw [hb, hal]
        · funext o
          rw [Mm.put_B _ _ _ _ _ _ _ e]
          show (N.put t (p % 16) 0 0).B x o = _
          rw [Mm.put_B _ _ _ _ _ _ _ hxt, hB x hx, hBP x hxt e]
      · rw [hK]
        funext o
        rw [Mm.put_B _ _ _ _ _ _ _ (Ne.symm hrf)]
        show (N.put t (p % 16) 0 0).B fr' o = _
        rw [Mm.put_B _ _ _ _ _ _ _ (Ne.symm htf)]
end Go.Proofs.Ytlbgnmcjdmdjpaa
open Go Go.Proofs
namespace Go.Proofs.Ytlbgnmcjdmdjpaa
/-- What is done to the space r, in the pages S: all else stands as it was. -/
structure Mm.Ext (M N : Mm) (r : Nat) (L : Sps) (E : Nat → Nat) (S : Nat → Prop) : Prop where
  n : N.n = M.n
  lk : ∀ b ∈ L, ∀ q, q < 256 → N.lk b.1 q = M.lk b.1 q
  hd : ∀ q, q < 256 → ¬ S q → N.lk r q = M.lk r q
  B : ∀ x, x < M.n → 0 < E x + osum M x L → ∀ o, N.B x o = M.B x o
  Bp : ∀ q (x : Nat), q < 256 → ¬ S q → (M.lk r q).1 ≠ 0 → (M.lk r q).2 = (x : Int) → ∀ o, N.B x o = M.B x o
theorem Mm.Ext.refl (M : Mm) (r : Nat) (L : Sps) (E : Nat → Nat) (S : Nat → Prop) : M.Ext M r L E S := ⟨rfl, fun _ _ _ _ => rfl, fun _ _ _ => rfl, fun _ _ _ _ => rfl, fun _ _ _ _ _ _ _ => rfl⟩
theorem Mm.Ext.osum {M N : Mm} {r : Nat} {L : Sps} {E : Nat → Nat} {S : Nat → Prop} (h : M.Ext N r L E S) (x : Nat) : osum N x L = osum M x L := osum_congr (fun b hb => own_congr (h.lk b hb) x)
theorem Mm.Ext.trans {M N K : Mm} {r : Nat} {L : Sps} {E : Nat → Nat} {S : Nat → Prop} (h : M.Ext N r L E S) (g : N.Ext K r L E S) : M.Ext K r L E S :=
  ⟨g.n.trans h.n, fun b hb q hq => (g.lk b hb q hq).trans (h.lk b hb q hq), fun q hq hs => (g.hd q hq hs).trans (h.hd q hq hs),
    fun x hx ho o => (g.B x (by rw [h.n]; exact hx) (by rw [h.osum]; exact ho) o).trans (h.B x hx ho o),
    fun q x hq hs h0 hx o => (g.Bp q x hq hs (by rw [h.hd q hq hs]; exact h0) (by rw [h.hd q hq hs]; exact hx) o).trans (h.Bp q x hq hs h0 hx o)⟩
theorem Mm.Ext.mono {M N : Mm} {r : Nat} {L : Sps} {E E' : Nat → Nat} {S S' : Nat → Prop} (h : M.Ext N r L E' S) (hE : ∀ x, 0 < E x → 0 < E' x) (hS : ∀ q, S q → S' q) : M.Ext N r L E S' :=
  ⟨h.n, h.lk, fun q hq hs => h.hd q hq (fun e => hs (hS q e)), fun x hx ho o => h.B x hx (by
    rcases Nat.eq_zero_or_pos (E x) with e | e
    · omega
    · have := hE x e; omega) o, fun q x hq hs => h.Bp q x hq (fun e => hs (hS q e))⟩
theorem plus_pos {E : Nat → Nat} {k x : Nat} (h : 0 < E x) : 0 < plus E k x := by unfold plus; omega
theorem Mm.Alone.ext {M N : Mm} {r : Nat} {T : Nat → Option Nat} {L : Sps} {E : Nat → Nat} {S : Nat → Prop} (hA : M.Alone N r T L) (h : M.Good ((r, T) :: L) E) (hd : ∀ q, q < 256 → ¬ S q → N.lk r q = M.lk r q) : M.Ext N r L E S :=
  ⟨hA.n, hA.lk, hd, fun x hx ho => by
    have a := h.apart ho
    have c := h.cnt x hx
    simp only [osum] at c
    exact hA.B x (by omega) a.1 a.2, fun q x hq hs h0 hx => by
    obtain ⟨_, a, b, c⟩ := h.self hq h0 hx
    exact hA.B x a b c⟩
theorem Mm.Good.used {M : Mm} {L : Sps} {E : Nat → Nat} (h : M.Good L E) {x : Nat} (hx : x < M.n) (h0 : 0 < E x + osum M x L) : 0 < M.R x := by have := h.cnt x hx; omega
/-- What is done to a page's count, and to unused frames, is none of this. -/
theorem Mm.Ext.of_used {M N : Mm} {r : Nat} {T : Nat → Option Nat} {L : Sps} {E : Nat → Nat} {S : Nat → Prop} (h : M.Good ((r, T) :: L) E) (hn : N.n = M.n) (hlk : ∀ b ∈ (r, T) :: L, ∀ q, q < 256 → N.lk b.1 q = M.lk b.1 q) (hB : ∀ x, x < M.n → 0 < M.R x → ∀ o, N.B x o = M.B x o) : M.Ext N r L E S :=
  ⟨hn, fun b hb => hlk b (List.mem_cons_of_mem _ hb), fun q hq _ => hlk _ List.mem_cons_self q hq, fun x hx ho => hB x hx (h.used hx (by simp only [Ytlbgnmcjdmdjpaa.osum]; omega)),
    fun q x hq _ h0 hx => by obtain ⟨a, b, _, _⟩ := h.self hq h0 hx; exact hB x a b⟩
theorem Mm.maps_ok {M : Mm} {r p f fl : Int} (h : (M.map r p f fl).2 = 0) : M.maps r p f fl = ((M.map r p f fl).1, 0) := by unfold Mm.maps; rw [if_pos h]
theorem Mm.maps_bad {M : Mm} {r p f fl : Int} (h : (M.map r p f fl).2 ≠ 0) : M.maps r p f fl = ((M.map r p f fl).1.free f, 11) := by unfold Mm.maps; rw [if_neg h]
theorem Mm.unmaps_of {M : Mm} {r p f : Int} (h : (M.unmap r p).2 = (f, 0)) : M.unmaps r p = (M.unmap r p).1.free f := by unfold Mm.unmaps; rw [h]; rfl
/-- A frame is mapped, or freed. -/
structure Mm.Mapped (M N : Mm) (r : Nat) (T : Nat → Option Nat) (L : Sps) (E : Nat → Nat) (p fl fr : Nat) (T' : Nat → Option Nat) : Prop where
  pp : p < 256
  f7 : fl ≤ 7
  f2 : fl % 2 = 1
  was : (M.lk r p).1 = 0
  good : N.Good ((r, T') :: L) E
  lk : N.lk r p = ((fl : Int), (fr : Int))
  ext : M.Ext N r L E (· = p)
  room : nfree M.R M.n ≤ nfree N.R M.n + 2
/-- A frame of its own at a page. -/
theorem Mm.Good.fresh {M : Mm} {r : Nat} {T : Nat → Option Nat} {L : Sps} {E : Nat → Nat} (h : M.Good ((r, T) :: L) E) (page flags : Int) :
    ((M.fresh r page flags).2.2 = 0 ∧ ∃ (p fl k : Nat) (T' : Nat → Option Nat), page = p ∧ flags = fl ∧ (M.fresh r page flags).2.1 = k ∧ k < M.n ∧ M.R k = 0 ∧ (M.fresh r page flags).1.R k = 1 ∧ (∀ o, (M.fresh r page flags).1.B k o = 0) ∧
      M.Mapped (M.fresh r page flags).1 r T L E p fl k T' ∧ ((∀ x, M.R x ≤ 1) → ∀ x, (M.fresh r page flags).1.R x ≤ 1) ∧ ∀ N' : Mm, N'.n = (M.fresh r page flags).1.n → N'.R = (M.fresh r page flags).1.R → (∀ x, x ≠ k → N'.B x = (M.fresh r page flags).1.B x) → M.Eqv (N'.unmaps r page)) ∨
    ((M.fresh r page flags).2.2 = 11 ∧ M.Eqv (M.fresh r page flags).1) := by
  cases hl : M.least with
  | none =>
    right
    have : M.fresh r page flags = (M, 0, 11) := by unfold Mm.fresh; rw [hl]
    rw [this]
    exact ⟨rfl, Mm.Eqv.refl M⟩
  | some k =>
    have hf : M.fresh r page flags = (((M.alloc k).maps r page k flags).1, (k : Int), ((M.alloc k).maps r page k flags).2) := by unfold Mm.fresh; rw [hl]
    obtain ⟨hk, hz, -⟩ := Mm.least_spec hl
    obtain ⟨f1, f2, f3⟩ := h.free0 hk hz
    obtain ⟨hG, hlk⟩ := h.alloc hl
    have hRk : (M.alloc k).R k = 1 := by simp [Mm.alloc]
    have back : ∀ K : Mm, K.n = M.n → K.R = (M.alloc k).R → (∀ x, x ≠ k → 0 < M.R x → K.B x = M.B x) → M.Eqv (K.free k) := fun K hn hR hB => by
      have hu : K.isUsed k = true := Mm.isUsed_nat (by rw [hn]; exact hk) (by rw [hR, hRk]; decide)
      have : K.free k = K.setR k 0 := by unfold Mm.free; rw [hu]; simp only [Int.toNat_natCast, hR, hRk]; rfl
      rw [this]
      refine ⟨hn, ?_, fun x hx => hB x (fun e => by subst e; omega) hx⟩
      funext x
      simp only [Mm.setR, hR]
      by_cases e : x = k
      · subst e; rw [if_pos rfl, f1]
      · rw [if_neg e]; simp [Mm.alloc, e]
    rw [hf]
    rcases hG.map (by exact hk) page flags with ⟨a, b⟩ | ⟨a, p, fl, T', rfl, rfl, hp, hf7, hf2, hl0, hGN, hlkN, hoth, hAl⟩
    · right
      rw [Mm.maps_bad a, b]
      exact ⟨rfl, back _ rfl rfl (fun x hx _ => by funext o; simp [Mm.alloc, hx])⟩
    · left
      have hap := hG.apart (x := k) (by rw [plus_eq]; omega)
      have hnR : ((M.alloc k).map r p k fl).1.R k = 1 := by rw [hAl.R k (by rw [hRk]; decide) hap.1 hap.2, hRk]
      have hnB : ∀ o, ((M.alloc k).map r p k fl).1.B k o = 0 := fun o => by rw [hAl.B k (by rw [hRk]; decide) hap.1 hap.2]; simp [Mm.alloc]
      rw [Mm.maps_ok a]
      have hroom : nfree M.R M.n ≤ nfree ((M.alloc k).map r p k fl).1.R M.n + 2 := by
        have := nfree_take (R := M.R) (R' := (M.alloc k).R) hk (by omega) (by rw [hRk]; decide) (fun i hi => by simp [Mm.alloc, hi])
        have h2 := hAl.room
        simp only [show (M.alloc k).n = M.n from rfl] at h2
        omega
      refine ⟨rfl, p, fl, k, T', rfl, rfl, rfl, hk, f1, hnR, hnB, ⟨hp, hf7, hf2, by rw [← hlk _ List.mem_cons_self p hp]; exact hl0, hGN, hlkN, ?_, hroom⟩, fun h1 => hAl.le1 (fun x => ?_), fun N' hn hR hB => ?_⟩
      · have e1 : M.Ext (M.alloc k) r L E (· = p) := Mm.Ext.of_used h rfl hlk (fun x hx hRx o => by
          have hxk : x ≠ k := fun e => by rw [e] at hRx; omega
          simp [Mm.alloc, hxk])
        have e2 := (hAl.ext hG (S := (· = p)) hoth).mono (E := E) (fun x => plus_pos) (fun _ e => e)
        exact e1.trans e2
      · simp only [Mm.alloc]; split
        · exact Int.le_refl _
        · exact h1 x
      · obtain ⟨g1, g2, g3, g4, g5⟩ := hG.map_back (by exact hk) p fl a hn hR hB
        rw [Mm.unmaps_of g1]
        exact back _ g2 g3 (fun x hx hRx => by
          have hRx' : 0 < (M.alloc k).R x := by simp [Mm.alloc, hx]; exact hRx
          rw [g4 x hx hRx']; funext o; simp [Mm.alloc, hx])
theorem cn_two {P : Nat → Bool} {p q : Nat} : ∀ n : Nat, p < n → q < n → p ≠ q → P p = true → P q = true → 2 ≤ cn P n
  | 0, h, _, _, _, _ => by omega
  | n + 1, hp, hq, hpq, h1, h2 => by
    simp only [cn]
    by_cases e : p = n
    · subst e
      have := cn_pos (P := P) p (p := q) (by omega) h2
      rw [h1]; simp; omega
    · by_cases e' : q = n
      · subst e'
        have := cn_pos (P := P) q (p := p) (by omega) h1
        rw [h2]; simp; omega
      · have := cn_two n (by omega) (by omega) hpq h1 h2
        omega
theorem own_two {M : Mm} {r : Nat} {T : Nat → Option Nat} {p q x : Nat} (hp : p < 256) (hq : q < 256) (hpq : p ≠ q) (h0 : (M.lk r p).1 ≠ 0) (hx : (M.lk r p).2 = (x : Int)) (h0' : (M.lk r q).1 ≠ 0) (hx' : (M.lk r q).2 = (x : Int)) : 2 ≤ own M r T x := by
  unfold own
  have := cn_two (P := fun p => decide ((M.lk r p).1 ≠ 0 ∧ (M.lk r p).2 = (x : Int))) 256 hp hq hpq (by simp [h0, hx]) (by simp [h0', hx'])
  omega
/-- A frame of its own, of bytes, at a page. -/
theorem Mm.Good.filled {M : Mm} {r : Nat} {T : Nat → Option Nat} {L : Sps} {E : Nat → Nat} (h : M.Good ((r, T) :: L) E) (page flags : Int) (s : ByteArray) :
    ((M.filled r page flags s).2 = 0 ∧ ∃ (p fl k : Nat) (T' : Nat → Option Nat), page = p ∧ flags = fl ∧ k < M.n ∧ M.R k = 0 ∧ (M.filled r page flags s).1.R k = 1 ∧ (∀ o, (M.filled r page flags s).1.B k o = pad s o) ∧
      M.Mapped (M.filled r page flags s).1 r T L E p fl k T' ∧ ((∀ x, M.R x ≤ 1) → ∀ x, (M.filled r page flags s).1.R x ≤ 1) ∧ M.Eqv ((M.filled r page flags s).1.unmaps r page)) ∨
    ((M.filled r page flags s).2 = 11 ∧ M.Eqv (M.filled r page flags s).1) := by
  rcases h.fresh page flags with ⟨a, p, fl, k, T', rfl, rfl, hk2, hk, hk0, hk1, hkB, hMp, hle1, hbk⟩ | ⟨a, b⟩
  · left
    obtain ⟨⟨N, kk, ee⟩, hFF⟩ : ∃ x, M.fresh r p fl = x := ⟨_, rfl⟩
    rw [hFF] at a hk2 hk1 hkB hMp hle1 hbk
    simp only at a hk2 hk1 hkB hMp hle1 hbk
    subst a hk2
    have hn : N.n = M.n := hMp.ext.n
    have hu : N.isUsed (k : Int) = true := Mm.isUsed_nat (by rw [hn]; exact hk) (by rw [hk1]; decide)
    have hf : M.filled r p fl s = (N.wr k 0 s, 0) := by
      unfold Mm.filled
      rw [hFF]
      simp [Mm.write, hu]
    rw [hf]
    have hne : ∀ x, x ≠ k → (N.wr k 0 s).B x = N.B x := fun x hx => by funext o; simp [Mm.wr, hx]
    have hG := hMp.good
    have hkp : ((N.lk r p).1) ≠ 0 := by rw [hMp.lk]; have := hMp.f2; simp only; omega
    have hkq : (N.lk r p).2 = (k : Int) := by rw [hMp.lk]
    have htr : ∀ x, treeFr ((r, T') :: L) x → x ≠ k := fun x ⟨b, hb, hx⟩ e => by
      subst e
      have := hG.page (a := (r, T')) List.mem_cons_self hb hMp.pp hkp hkq
      rcases hx with e | ⟨i, e⟩
      · exact this.2.2.1 e
      · exact this.2.2.2 i e
    obtain ⟨hG2, hlk2⟩ := hG.bytes (N := N.wr k 0 s) rfl (fun _ _ => rfl) (fun x hx o => by rw [hne x (htr x hx)])
    have ck := hG.cnt k (by rw [hn]; exact hk)
    have ok := own_page (T := T') hMp.pp hkp hkq
    simp only [osum] at ck
    refine ⟨rfl, p, fl, k, T', rfl, rfl, hk, hk0, hk1, fun o => ?_, ⟨hMp.pp, hMp.f7, hMp.f2, hMp.was, hG2, by rw [hlk2 _ List.mem_cons_self p hMp.pp]; exact hMp.lk, hMp.ext.trans ?_, hMp.room⟩, hle1, hbk _ rfl rfl hne⟩
    · have := hkB o
      simp [Mm.wr, pad, this]
    · refine ⟨rfl, fun b hb => hlk2 b (List.mem_cons_of_mem _ hb), fun q hq _ => hlk2 _ List.mem_cons_self q hq, fun x hx ho o => ?_, fun q x hq hs h0 hx o => ?_⟩
      · rw [hne x]
        intro e
        subst e
        omega
      · rw [hne x]
        intro e
        subst e
        have := own_two (T := T') hq hMp.pp hs h0 hx hkp hkq
        omega
  · right
    have : M.filled r page flags s = ((M.fresh r page flags).1, (M.fresh r page flags).2.2) := by unfold Mm.filled; rw [if_neg (by omega)]
    rw [this]
    exact ⟨a, b⟩
/-- A frame that others have at a page. -/
theorem Mm.Good.shared {M : Mm} {r : Nat} {T : Nat → Option Nat} {L : Sps} {E : Nat → Nat} (h : M.Good ((r, T) :: L) E) (page flags : Int) (fr : Nat) (hfr : fr < M.n) (hR : 0 < M.R fr) (ht : ¬ treeFr ((r, T) :: L) fr) :
    ((M.shared r page fr flags).2 = 0 ∧ ∃ (p fl : Nat) (T' : Nat → Option Nat), page = p ∧ flags = fl ∧ (∀ o, (M.shared r page fr flags).1.B fr o = M.B fr o) ∧ M.Mapped (M.shared r page fr flags).1 r T L E p fl fr T' ∧ M.Eqv ((M.shared r page fr flags).1.unmaps r page)) ∨
    ((M.shared r page fr flags).2 = 11 ∧ M.Eqv (M.shared r page fr flags).1) := by
  have hu : M.isUsed fr = true := Mm.isUsed_nat hfr hR
  by_cases e : M.R fr = 1000
  · right
    have : M.shared r page fr flags = (M, 11) := by simp [Mm.shared, Mm.share, hu, e]
    rw [this]
    exact ⟨rfl, Mm.Eqv.refl M⟩
  have hsh : M.share fr = (M.setR fr (M.R fr + 1), 0) := by simp [Mm.share, hu, e]
  have hf : M.shared r page fr flags = (M.setR fr (M.R fr + 1)).maps r page fr flags := by
    unfold Mm.shared; rw [hsh]; rfl
  obtain ⟨hG, hlk⟩ := h.share hfr hR ht
  have hRk : (M.setR fr (M.R fr + 1)).R fr = M.R fr + 1 := by simp [Mm.setR]
  have back : ∀ K : Mm, K.n = M.n → K.R = (M.setR fr (M.R fr + 1)).R → (∀ x, 0 < M.R x → K.B x = M.B x) → M.Eqv (K.free fr) := fun K hn hR' hB => by
    have hu : K.isUsed fr = true := Mm.isUsed_nat (by rw [hn]; exact hfr) (by rw [hR', hRk]; omega)
    have : K.free fr = K.setR fr (M.R fr) := by
      unfold Mm.free; rw [hu]; simp only [Int.toNat_natCast, hR', hRk, if_true]; congr 1; omega
    rw [this]
    refine ⟨hn, ?_, fun x hx => hB x hx⟩
    funext x
    simp only [Mm.setR, hR']
    by_cases e : x = fr
    · subst e; rw [if_pos rfl]
    · rw [if_neg e, if_neg e]
  rw [hf]
  rcases hG.map (by exact hfr) page flags with ⟨a, b⟩ | ⟨a, p, fl, T', rfl, rfl, hp, hf7, hf2, hl0, hGN, hlkN, hoth, hAl⟩
  · right
    rw [Mm.maps_bad a, b]
    exact ⟨rfl, back _ rfl rfl (fun x _ => rfl)⟩
  · left
    have hap := hG.apart (x := fr) (by rw [plus_eq]; omega)
    rw [Mm.maps_ok a]
    refine ⟨rfl, p, fl, T', rfl, rfl, fun o => hAl.B fr (by rw [hRk]; omega) hap.1 hap.2 o, ⟨hp, hf7, hf2, by rw [← hlk _ List.mem_cons_self p hp]; exact hl0, hGN, hlkN, ?_, ?_⟩, ?_⟩
    · have e1 : M.Ext (M.setR fr (M.R fr + 1)) r L E (· = p) := Mm.Ext.of_used h rfl hlk (fun x hx hRx o => rfl)
      have e2 := (hAl.ext hG (S := (· = p)) hoth).mono (E := E) (fun x => plus_pos) (fun _ e => e)
      exact e1.trans e2
    · have e := nfree_congr (R := M.R) (R' := (M.setR fr (M.R fr + 1)).R) M.n (fun i hi => by
        by_cases e : i = fr
        · subst e; simp only [Mm.setR, if_true]; omega
        · simp [Mm.setR, e])
      have h2 := hAl.room
      simp only [show (M.setR fr (M.R fr + 1)).n = M.n from rfl] at h2
      show nfree M.R M.n ≤ nfree ((M.setR fr (M.R fr + 1)).map r p fr fl).1.R M.n + 2
      omega
    · obtain ⟨g1, g2, g3, g4, g5⟩ := hG.map_back (by exact hfr) p fl a (N := ((M.setR fr (M.R fr + 1)).map r p fr fl).1) rfl rfl (fun _ _ => rfl)
      rw [Mm.unmaps_of g1]
      refine back _ g2 g3 (fun x hRx => ?_)
      by_cases e : x = fr
      · subst e
        rw [g5]
        funext o
        exact hAl.B x (by rw [hRk]; omega) hap.1 hap.2 o
      · exact g4 x e (by simp [Mm.setR, e]; exact hRx)
/-- A page is unmapped, and its frame freed. -/
theorem Mm.Good.unmaps {M : Mm} {r : Nat} {T : Nat → Option Nat} {L : Sps} {E : Nat → Nat} (h : M.Good ((r, T) :: L) E) (page : Int) :
    (M.unmaps r page = M ∧ ∀ p : Nat, page = p → p < 256 → (M.lk r p).1 = 0) ∨
    ∃ (p : Nat) (T' : Nat → Option Nat), page = p ∧ p < 256 ∧ (M.lk r p).1 ≠ 0 ∧ (M.unmaps r page).Good ((r, T') :: L) E ∧ (M.unmaps r page).lk r p = (0, 0) ∧ M.Ext (M.unmaps r page) r L E (· = p) ∧ ((∀ x, M.R x ≤ 1) → ∀ x, (M.unmaps r page).R x ≤ 1) := by
  rcases h.unmap page with ⟨a, b, c⟩ | ⟨a, p, fl, fr, T', rfl, hp, hl, hfl, hfr, hres, hG, hl0, hoth, hAl, -⟩
  · left
    unfold Mm.unmaps
    rw [if_neg a]
    exact ⟨b, c⟩
  · right
    have hu : M.unmaps r p = (M.unmap r p).1.free fr := Mm.unmaps_of (by rw [Prod.ext_iff]; exact ⟨hres, a⟩)
    rw [hu]
    obtain ⟨g1, g2, g3, g4, g5⟩ := hG.free (by rw [hAl.n]; exact hfr)
    have e1 := hAl.ext h (S := (· = p)) hoth
    refine ⟨p, T', rfl, hp, by rw [hl]; simp only; omega, g1, by rw [g5 _ List.mem_cons_self p hp]; exact hl0, e1.trans ⟨g2, fun b hb => g5 b (List.mem_cons_of_mem _ hb), fun q hq _ => g5 _ List.mem_cons_self q hq, fun x _ _ o => by rw [g3], fun q x _ _ _ _ o => by rw [g3]⟩, fun h1 x => ?_⟩
    have := hAl.le1 h1 x
    rw [g4]
    split
    · have := hAl.le1 h1 fr; omega
    · exact this
end Go.Proofs.Ytlbgnmcjdmdjpaa
open Go Go.Proofs
namespace Go.Proofs.Ytlbgnmcjdmdjpaa
theorem Mm.Good.fresh_ok {M : Mm} {r : Nat} {T : Nat → Option Nat} {L : Sps} {E : Nat → Nat} (h : M.Good ((r, T) :: L) E) {p fl : Nat} (hp : p < 256) (hf7 : fl ≤ 7) (hf2 : fl % 2 = 1) (h0 : (M.lk r p).1 = 0) (hroom : 2 ≤ nfree M.R M.n) : (M.fresh r p fl).2.2 = 0 := by
  obtain ⟨k, hl⟩ := M.room (by omega)
  obtain ⟨hk, hz, -⟩ := Mm.least_spec hl
  obtain ⟨hG, hlk⟩ := h.alloc hl
  obtain ⟨cu, hU⟩ := hG.tree.tree
  have hn2 : M.n ≤ 256 := h.n2
  have h1 := nfree_take (R := M.R) (R' := (M.alloc k).R) hk (by omega) (by simp [Mm.alloc]) (fun i hi => by simp [Mm.alloc, hi])
  obtain ⟨k', hl'⟩ := (M.alloc k).room (by show 0 < nfree (M.alloc k).R M.n; omega)
  have hok := hU.map_ok hp (k := k) (by omega) hf7 hf2 (by rw [hlk _ List.mem_cons_self p hp]; exact h0) (by rw [hl']; simp)
  unfold Mm.fresh
  rw [hl]
  simp only [Mm.maps, hok, if_true]
/-- A page of the head that is there is mapped in no more than one way. -/
theorem Mm.Mapped.now {M N : Mm} {r : Nat} {T T' : Nat → Option Nat} {L : Sps} {E : Nat → Nat} {p fl fr : Nat} (h : M.Mapped N r T L E p fl fr T') : (N.lk r p).1 ≠ 0 := by
  rw [h.lk]; have := h.f2; simp only; omega
/-- Undoing goes back to where a list of works began. -/
theorem undo_page {M0 M N : Mm} {r : Int} {U : List Und} {p : Int} (h : M0.Eqv (M.undo r U.reverse)) (g : M.Eqv (N.unmaps r p)) : M0.Eqv (N.undo r (U ++ [Und.page p]).reverse) := by
  rw [List.reverse_append]
  exact h.trans (Mm.Eqv.undo _ g)
structure Grown (M N : Mm) (r : Nat) (T' : Nat → Option Nat) (L : Sps) (E : Nat → Nat) (l : List Int) : Prop where
  good : N.Good ((r, T') :: L) E
  ext : M.Ext N r L E (fun q => (q : Int) ∈ l)
  pgs : ∀ p ∈ l, ∃ q k : Nat, p = q ∧ q < 256 ∧ (M.lk r q).1 = 0 ∧ N.lk r q = (3, (k : Int)) ∧ ∀ o, N.B k o = 0
  le1 : (∀ x, M.R x ≤ 1) → ∀ x, N.R x ≤ 1
  room : nfree M.R M.n ≤ nfree N.R M.n + 2 * l.length
theorem Mm.Good.growU {r : Nat} {L : Sps} {E : Nat → Nat} {M0 : Mm} : ∀ (l : List Int) (M : Mm) (T : Nat → Option Nat) (U : List Und), M.Good ((r, T) :: L) E → M0.Eqv (M.undo r U.reverse) →
    ((Mm.growU r M U l).2 = 0 ∧ ∃ T', Grown M (Mm.growU r M U l).1 r T' L E l) ∨ ((Mm.growU r M U l).2 = 11 ∧ M0.Eqv (Mm.growU r M U l).1)
  | [], M, T, U, h, _ => .inl ⟨rfl, T, h, Mm.Ext.refl _ _ _ _ _, (fun p hp => by cases hp), fun h => h, (by simp [Mm.growU])⟩
  | p :: l, M, T, U, h, h0 => by
    unfold Mm.growU
    rcases h.fresh p 3 with ⟨a, q, fl, k, T', rfl, hfl, hk2, hk, hk0, hk1, hkB, hMp, hle1, hbk⟩ | ⟨a, b⟩
    · have e : fl = 3 := by omega
      subst e
      rw [if_pos a]
      generalize (M.fresh r q 3).1 = N at *
      rcases Mm.Good.growU (M0 := M0) l N T' (U ++ [Und.page q]) hMp.good (undo_page h0 (hbk N rfl rfl (fun _ _ => rfl))) with ⟨c, T2, g⟩ | c
      · left
        refine ⟨c, T2, g.good, (hMp.ext.mono (fun _ e => e) (fun x e => by subst e; exact List.mem_cons_self)).trans (g.ext.mono (fun _ e => e) (fun x e => List.mem_cons_of_mem _ e)), fun x hx => ?_, fun h1 => g.le1 (hle1 h1), ?_⟩
        · rcases List.mem_cons.1 hx with rfl | hx
          · have hnot : ¬ ((q : Int) ∈ l) := fun e => by
              obtain ⟨q', k', e1, _, e2, _⟩ := g.pgs _ e
              have : q' = q := by omega
              subst this
              exact hMp.now e2
            refine ⟨q, k, rfl, hMp.pp, hMp.was, by rw [g.ext.hd q hMp.pp hnot, hMp.lk]; rfl, fun o => ?_⟩
            rw [g.ext.Bp q k hMp.pp hnot hMp.now (by rw [hMp.lk])]
            exact hkB o
          · obtain ⟨q', k', e1, e2, e3, e4, e5⟩ := g.pgs x hx
            refine ⟨q', k', e1, e2, ?_, e4, e5⟩
            rw [← hMp.ext.hd q' e2 (fun e => by subst e; exact hMp.now e3)]
            exact e3
        · have := hMp.room
          have h2 := g.room
          rw [hMp.ext.n] at h2
          simp only [List.length_cons]
          omega
      · exact .inr c
    · rw [if_neg (by omega)]
      exact .inr ⟨rfl, h0.trans (Mm.Eqv.undo _ b)⟩
theorem Mm.Good.growU_ok {r : Nat} {L : Sps} {E : Nat → Nat} : ∀ (l : List Int) (M : Mm) (T : Nat → Option Nat) (U : List Und), M.Good ((r, T) :: L) E → l.Nodup → (∀ p ∈ l, ∃ q : Nat, p = q ∧ q < 256 ∧ (M.lk r q).1 = 0) → 2 * l.length ≤ nfree M.R M.n → (Mm.growU r M U l).2 = 0
  | [], M, T, U, h, _, _, _ => rfl
  | p :: l, M, T, U, h, hnd, hp, hroom => by
    obtain ⟨q, rfl, hq, h0⟩ := hp p List.mem_cons_self
    simp only [List.length_cons] at hroom
    have a := h.fresh_ok (fl := 3) hq (by decide) (by decide) h0 (by omega)
    rw [show ((3 : Nat) : Int) = 3 from rfl] at a
    unfold Mm.growU
    rw [if_pos a]
    obtain ⟨_, q', fl, k, T', e1, _, _, _, _, _, _, hMp, _⟩ := (h.fresh q 3).resolve_right (fun g => by rw [a] at g; exact absurd g.1 (by decide))
    have e : q' = q := by omega
    subst e
    have h2 := hMp.room
    refine Mm.Good.growU_ok l _ T' _ hMp.good (List.nodup_cons.1 hnd).2 (fun x hx => ?_) (by rw [hMp.ext.n]; omega)
    obtain ⟨y, rfl, hy, hy0⟩ := hp x (List.mem_cons_of_mem _ hx)
    refine ⟨y, rfl, hy, ?_⟩
    rw [hMp.ext.hd y hy (fun e => by subst e; exact (List.nodup_cons.1 hnd).1 hx)]
    exact hy0
/-- Pages unmapped one after another. -/
theorem Mm.Good.cutL {r : Nat} {L : Sps} {E : Nat → Nat} : ∀ (l : List Int) (M : Mm) (T : Nat → Option Nat), M.Good ((r, T) :: L) E →
    ∃ T', (M.cutL r l).Good ((r, T') :: L) E ∧ M.Ext (M.cutL r l) r L E (fun q => (q : Int) ∈ l) ∧ (∀ q : Nat, q < 256 → (q : Int) ∈ l → ((M.cutL r l).lk r q).1 = 0) ∧ ((∀ x, M.R x ≤ 1) → ∀ x, (M.cutL r l).R x ≤ 1)
  | [], M, T, h => ⟨T, h, Mm.Ext.refl _ _ _ _ _, (fun q _ hq => by cases hq), fun h => h⟩
  | p :: l, M, T, h => by
    unfold Mm.cutL
    rcases h.unmaps p with ⟨a, b⟩ | ⟨q, T', rfl, hq, hq0, hG, hl0, hE, hle1⟩
    · rw [a]
      obtain ⟨T2, g1, g2, g3, g4⟩ := Mm.Good.cutL l M T h
      refine ⟨T2, g1, g2.mono (fun _ e => e) (fun x e => List.mem_cons_of_mem _ e), fun q hq hm => ?_, g4⟩
      by_cases e : (q : Int) ∈ l
      · exact g3 q hq e
      · rw [g2.hd q hq e]
        exact b q ((List.mem_cons.1 hm).resolve_right e).symm hq
    · obtain ⟨T2, g1, g2, g3, g4⟩ := Mm.Good.cutL l (M.unmaps r q) T' hG
      refine ⟨T2, g1, (hE.mono (fun _ e => e) (fun x e => by subst e; exact List.mem_cons_self)).trans (g2.mono (fun _ e => e) (fun x e => List.mem_cons_of_mem _ e)), fun y hy hm => ?_, fun h1 => g4 (hle1 h1)⟩
      by_cases e : (y : Int) ∈ l
      · exact g3 y hy e
      · have e2 : y = q := by have := (List.mem_cons.1 hm).resolve_right e; omega
        subst e2
        rw [g2.hd y hy e, hl0]
/-- A root without pages has no tables. -/
theorem Mm.Tre.bare {M : Mm} {r : Nat} {T : Nat → Option Nat} (h : M.Tre r T) (h0 : ∀ q, q < 256 → (M.lk r q).1 = 0) (i : Nat) : T i = none := by
  cases e : T i with
  | none => rfl
  | some k =>
    exfalso
    obtain ⟨j, hj, hne⟩ := h.ne i k e
    obtain ⟨a, _⟩ := h.tb i k e
    obtain ⟨cu, hU⟩ := h.tree
    have := Mm.lk_tree hU (p := 16 * i + j) (by omega)
    rw [show (16 * i + j) / 16 = i by omega, show (16 * i + j) % 16 = j by omega, e] at this
    have h1 := h0 (16 * i + j) (by omega)
    rw [this] at h1
    exact hne h1
/-- A root without pages is dropped. -/
theorem Mm.Good.drop {M : Mm} {r : Nat} {T : Nat → Option Nat} {L : Sps} {E : Nat → Nat} (h : M.Good ((r, T) :: L) E) (h0 : ∀ q, q < 256 → (M.lk r q).1 = 0) :
    M.drop r = (M.setR r 0, 0) ∧ (M.drop r).1.Good L E ∧ (∀ b ∈ L, ∀ q, q < 256 → (M.drop r).1.lk b.1 q = M.lk b.1 q) := by
  have hT := h.tree
  obtain ⟨cu, hU⟩ := hT.tree
  have hb := hT.bare h0
  have hu : M.isUsed r = true := Mm.isUsed_nat hT.rn (by rw [hT.rR]; decide)
  have hd : ∀ i, i ≤ 16 → M.dropSt r i = M := by
    intro i
    induction i with
    | zero => intro _; rfl
    | succ i ih =>
      intro hi
      unfold Mm.dropSt
      rw [ih (by omega)]
      rw [hU.get_root, hT.top0 i (by omega) (hb i)]
      rfl
  have hdr : M.drop r = (M.setR r 0, 0) := by
    unfold Mm.drop
    rw [hd 16 (by omega), hU.check, hu]
    have : M.free r = M.setR r 0 := by unfold Mm.free; rw [hu]; simp only [Int.toNat_natCast, hT.rR]; rfl
    rw [this]; rfl
  rw [hdr]
  have K := fun b hb => h.other (N := M.setR r 0) rfl (fun x hx h1 h2 h3 => by simp [Mm.setR, h2, h1]) (fun x _ _ _ _ => .inl (fun _ => rfl)) (b := b) hb
  refine ⟨rfl, ⟨h.n2, fun b hb => (K b hb).1, fun b hb q hq hq0 => by rw [(K b hb).2 q hq] at hq0 ⊢; exact h.pg b (List.mem_cons_of_mem _ hb) q hq hq0, fun x hx => ?_⟩, fun b hb => (K b hb).2⟩
  have c := h.cnt x hx
  have s := osum_congr (M := M) (x := x) (fun b hb => own_congr (K b hb).2 x)
  have o : own M r T x = if x = r then 1 else 0 := by
    unfold own
    rw [cn_zero 16 (fun i _ => by rw [hb]; rfl), cn_zero 256 (fun q hq => by simp [h0 q hq])]
    rfl
  rw [s]
  simp only [osum, o] at c
  simp only [Mm.setR]
  by_cases e : x = r
  · subst e
    rw [if_pos rfl] at c ⊢
    have := hT.rR
    omega
  · rw [if_neg e] at c ⊢
    omega
theorem Mm.mem_pgs {M : Mm} {r : Nat} {q : Nat} : (q : Int) ∈ M.pgs r ↔ q < 256 ∧ (M.lk r q).1 ≠ 0 := by
  unfold Mm.pgs
  rw [Mm.pages_eq, List.mem_map]
  constructor
  · rintro ⟨p, hp, e⟩
    have : p = q := by omega
    subst this
    exact Mm.mem_pages.1 hp
  · intro hq
    exact ⟨q, Mm.mem_pages.2 hq, rfl⟩
/-- A space is dropped: its frames are freed, all others stay. -/
theorem Mm.Good.dropSp {M : Mm} {r : Nat} {T : Nat → Option Nat} {L : Sps} {E : Nat → Nat} (h : M.Good ((r, T) :: L) E) :
    (M.dropSp r).2 = 0 ∧ (M.dropSp r).1.Good L E ∧ (M.dropSp r).1.n = M.n ∧ (∀ b ∈ L, ∀ q, q < 256 → (M.dropSp r).1.lk b.1 q = M.lk b.1 q) ∧ (∀ x, x < M.n → 0 < E x + osum M x L → ∀ o, (M.dropSp r).1.B x o = M.B x o) := by
  obtain ⟨cu, hU⟩ := h.tree.tree
  have hc : M.check r 0 = 0 := by rw [hU.check]; rfl
  have hm : ∀ q : Nat, (q : Int) ∈ M.pgs r ↔ q < 256 ∧ (M.lk r q).1 ≠ 0 := fun q => Mm.mem_pgs
  have hD : M.dropSp r = (M.cutL r (M.pgs r)).drop r := by unfold Mm.dropSp; rw [if_pos hc]
  rw [hD]
  clear hD
  generalize M.pgs r = l at hm
  obtain ⟨T', g1, g2, g3, -⟩ := Mm.Good.cutL l M T h
  generalize M.cutL r l = N at g1 g2 g3
  have hz : ∀ q, q < 256 → (N.lk r q).1 = 0 := fun q hq => by
    by_cases e : (q : Int) ∈ l
    · exact g3 q hq e
    · rw [g2.hd q hq e]
      apply Classical.byContradiction
      intro hne
      exact e ((hm q).2 ⟨hq, hne⟩)
  obtain ⟨d1, d2, d3⟩ := g1.drop hz
  refine ⟨by rw [d1], d2, by rw [d1]; exact g2.n, fun b hb q hq => (d3 b hb q hq).trans (g2.lk b hb q hq), fun x hx ho o => ?_⟩
  rw [d1]
  exact g2.B x hx ho o
/-- A root that was begun is dropped again. -/
theorem Mm.Good.begun_back {M : Mm} {L : Sps} {E : Nat → Nat} (h : M.Good L E) {k : Nat} (hl : M.least = some k) : M.Eqv ((M.alloc k).undo k [Und.root].reverse) := by
  obtain ⟨hk, hz, -⟩ := Mm.least_spec hl
  have f := h.free0 hk hz
  obtain ⟨g1, -, g3⟩ := h.begun hl
  obtain ⟨d, -, -⟩ := g1.drop g3
  show M.Eqv ((M.alloc k).drop k).1
  rw [d]
  refine ⟨rfl, ?_, fun x hx => ?_⟩
  · funext x
    simp only [Mm.setR, Mm.alloc]
    by_cases e : x = k
    · subst e; rw [if_pos rfl]; exact f.1.symm
    · rw [if_neg e, if_neg e]
  · funext o
    have : x ≠ k := by intro e; subst e; omega
    simp [Mm.setR, Mm.alloc, this]
end Go.Proofs.Ytlbgnmcjdmdjpaa
open Go Go.Proofs
namespace Go.Proofs.Ytlbgnmcjdmdjpaa
theorem Mm.Good.filled_ok {M : Mm} {r : Nat} {T : Nat → Option Nat} {L : Sps} {E : Nat → Nat} (h : M.Good ((r, T) :: L) E) {p fl : Nat} (hp : p < 256) (hf7 : fl ≤ 7) (hf2 : fl % 2 = 1) (h0 : (M.lk r p).1 = 0) (hroom : 2 ≤ nfree M.R M.n) (s : ByteArray) : (M.filled r p fl s).2 = 0 := by
  have a := h.fresh_ok hp hf7 hf2 h0 hroom
  have hu := Mm.fresh_used M r p fl a
  unfold Mm.filled
  rw [if_pos a, if_pos hu]
structure FilledL (M N : Mm) (r : Nat) (T' : Nat → Option Nat) (L : Sps) (E : Nat → Nat) (l : List (Int × Int × ByteArray)) : Prop where
  good : N.Good ((r, T') :: L) E
  ext : M.Ext N r L E (fun q => ∃ x ∈ l, x.1 = (q : Int))
  pgs : ∀ x ∈ l, ∃ q fl k : Nat, x.1 = q ∧ x.2.1 = fl ∧ q < 256 ∧ (M.lk r q).1 = 0 ∧ N.lk r q = ((fl : Int), (k : Int)) ∧ fl ≠ 0 ∧ ∀ o, N.B k o = pad x.2.2 o
  le1 : (∀ x, M.R x ≤ 1) → ∀ x, N.R x ≤ 1
  room : nfree M.R M.n ≤ nfree N.R M.n + 2 * l.length
theorem Mm.Good.fillU {r : Nat} {L : Sps} {E : Nat → Nat} {M0 : Mm} : ∀ (l : List (Int × Int × ByteArray)) (M : Mm) (T : Nat → Option Nat) (U : List Und), M.Good ((r, T) :: L) E → M0.Eqv (M.undo r U.reverse) →
    ((Mm.fillU r M U l).2 = 0 ∧ ∃ T', FilledL M (Mm.fillU r M U l).1 r T' L E l) ∨ ((Mm.fillU r M U l).2 = 11 ∧ M0.Eqv (Mm.fillU r M U l).1)
  | [], M, T, U, h, _ => .inl ⟨rfl, T, h, Mm.Ext.refl _ _ _ _ _, (fun p hp => by cases hp), fun h => h, (by simp [Mm.fillU])⟩
  | (p, fp, s) :: l, M, T, U, h, h0 => by
    unfold Mm.fillU
    rcases h.filled p fp s with ⟨a, q, fl, k, T', rfl, rfl, hk, hk0, hk1, hkB, hMp, hle1, hbk⟩ | ⟨a, b⟩
    · rw [if_pos a]
      generalize (M.filled r q fl s).1 = N at *
      rcases Mm.Good.fillU (M0 := M0) l N T' (U ++ [Und.page q]) hMp.good (undo_page h0 hbk) with ⟨c, T2, g⟩ | c
      · left
        refine ⟨c, T2, g.good, (hMp.ext.mono (fun _ e => e) (fun x e => ⟨_, List.mem_cons_self, by subst e; rfl⟩)).trans (g.ext.mono (fun _ e => e) (fun x ⟨y, hy, e⟩ => ⟨y, List.mem_cons_of_mem _ hy, e⟩)), fun x hx => ?_, fun h1 => g.le1 (hle1 h1), ?_⟩
        · rcases List.mem_cons.1 hx with rfl | hx
          · have hnot : ¬ (∃ x ∈ l, x.1 = (q : Int)) := fun ⟨y, hy, e⟩ => by
              obtain ⟨q', fl', k', e1, _, _, e2, _⟩ := g.pgs _ hy
              have : q' = q := by omega
              subst this
              exact hMp.now e2
            refine ⟨q, fl, k, rfl, rfl, hMp.pp, hMp.was, by rw [g.ext.hd q hMp.pp hnot, hMp.lk], by have := hMp.f2; omega, fun o => ?_⟩
            rw [g.ext.Bp q k hMp.pp hnot hMp.now (by rw [hMp.lk])]
            exact hkB o
          · obtain ⟨q', fl', k', e1, e0, e2, e3, e4, e5⟩ := g.pgs x hx
            refine ⟨q', fl', k', e1, e0, e2, ?_, e4, e5⟩
            rw [← hMp.ext.hd q' e2 (fun e => by subst e; exact hMp.now e3)]
            exact e3
        · have := hMp.room
          have h2 := g.room
          rw [hMp.ext.n] at h2
          simp only [List.length_cons]
          omega
      · exact .inr c
    · rw [if_neg (by omega)]
      exact .inr ⟨rfl, h0.trans (Mm.Eqv.undo _ b)⟩
theorem Mm.Good.fillU_ok {r : Nat} {L : Sps} {E : Nat → Nat} : ∀ (l : List (Int × Int × ByteArray)) (M : Mm) (T : Nat → Option Nat) (U : List Und), M.Good ((r, T) :: L) E → l.Pairwise (fun a b => a.1 ≠ b.1) →
    (∀ x ∈ l, ∃ q fl : Nat, x.1 = q ∧ x.2.1 = fl ∧ q < 256 ∧ fl ≤ 7 ∧ fl % 2 = 1 ∧ (M.lk r q).1 = 0) → 2 * l.length ≤ nfree M.R M.n → (Mm.fillU r M U l).2 = 0
  | [], M, T, U, h, _, _, _ => rfl
  | (p, fp, s) :: l, M, T, U, h, hnd, hp, hroom => by
    obtain ⟨q, fl, e1, e2, hq, hf7, hf2, h0⟩ := hp _ List.mem_cons_self
    simp only at e1 e2
    subst e1 e2
    simp only [List.length_cons] at hroom
    have a := h.filled_ok hq hf7 hf2 h0 (by omega) s
    unfold Mm.fillU
    rw [if_pos a]
    obtain ⟨_, q', fl', k, T', e1, _, _, _, _, _, hMp, _⟩ := (h.filled q fl s).resolve_right (fun g => by rw [a] at g; exact absurd g.1 (by decide))
    have e : q' = q := by omega
    subst e
    have h2 := hMp.room
    refine Mm.Good.fillU_ok l _ T' _ hMp.good (List.pairwise_cons.1 hnd).2 (fun x hx => ?_) (by rw [hMp.ext.n]; omega)
    obtain ⟨y, fy, e1, e2, hy, f7, f2, hy0⟩ := hp x (List.mem_cons_of_mem _ hx)
    refine ⟨y, fy, e1, e2, hy, f7, f2, ?_⟩
    rw [hMp.ext.hd y hy (fun e => (List.pairwise_cons.1 hnd).1 x hx (by rw [e1, ← e]))]
    exact hy0
/-- A new space beside others. -/
structure Born (M N : Mm) (k : Nat) (T' : Nat → Option Nat) (L : Sps) (E : Nat → Nat) : Prop where
  kn : k < M.n
  k0 : M.R k = 0
  good : N.Good ((k, T') :: L) E
  n : N.n = M.n
  lk : ∀ b ∈ L, ∀ q, q < 256 → N.lk b.1 q = M.lk b.1 q
  B : ∀ x, x < M.n → 0 < E x + osum M x L → ∀ o, N.B x o = M.B x o
  le1 : (∀ x, M.R x ≤ 1) → ∀ x, N.R x ≤ 1
theorem Mm.Good.born {M N : Mm} {L : Sps} {E : Nat → Nat} (h : M.Good L E) {k : Nat} (hl : M.least = some k) {T' : Nat → Option Nat} {S : Nat → Prop} (hG : N.Good ((k, T') :: L) E) (hE : (M.alloc k).Ext N k L E S) (h1 : (∀ x, (M.alloc k).R x ≤ 1) → ∀ x, N.R x ≤ 1) : Born M N k T' L E := by
  obtain ⟨hk, hz, -⟩ := Mm.least_spec hl
  obtain ⟨g1, g2, g3⟩ := h.begun hl
  refine ⟨hk, (h.free0 hk hz).1, hG, hE.n, fun b hb q hq => (hE.lk b hb q hq).trans (g2 b hb q hq), fun x hx ho o => ?_, fun e => h1 (fun x => ?_)⟩
  · have s := osum_congr (M := M) (N := M.alloc k) (x := x) (fun b hb => own_congr (g2 b hb) x)
    rw [hE.B x hx (by rw [s]; exact ho)]
    have : x ≠ k := by intro e; subst e; have := h.used hx ho; omega
    simp [Mm.alloc, this]
  · simp only [Mm.alloc]; split
    · exact Int.le_refl _
    · exact e x
/-- An image is executed. -/
theorem Mm.Good.exec {M : Mm} {L : Sps} {E : Nat → Nat} (h : M.Good L E) (t d : ByteArray) :
    ((M.exec t d).2.2 = 0 ∧ ∃ (k : Nat) (T' : Nat → Option Nat), (M.exec t d).2.1 = k ∧ Born M (M.exec t d).1 k T' L E ∧
      (∀ x ∈ imgItems t d, ∃ q fl y : Nat, x.1 = q ∧ x.2.1 = fl ∧ q < 256 ∧ (M.exec t d).1.lk k q = ((fl : Int), (y : Int)) ∧ fl ≠ 0 ∧ ∀ o, (M.exec t d).1.B y o = pad x.2.2 o) ∧
      (∀ q : Nat, q < 256 → (∀ x ∈ imgItems t d, x.1 ≠ (q : Int)) → ((M.exec t d).1.lk k q).1 = 0) ∧ nfree M.R M.n ≤ nfree (M.exec t d).1.R M.n + 1 + 2 * (imgItems t d).length) ∨
    ((M.exec t d).2.2 = 11 ∧ M.Eqv (M.exec t d).1) := by
  cases hl : M.least with
  | none =>
    right
    have : M.exec t d = (M, 0, 11) := by unfold Mm.exec; rw [hl]
    rw [this]; exact ⟨rfl, Mm.Eqv.refl M⟩
  | some k =>
    have hX : M.exec t d = ((Mm.fillU k (M.alloc k) [.root] (imgItems t d)).1, (k : Int), (Mm.fillU k (M.alloc k) [.root] (imgItems t d)).2) := by unfold Mm.exec; rw [hl]
    rw [hX]
    obtain ⟨hk, hz, -⟩ := Mm.least_spec hl
    obtain ⟨g1, g2, g3⟩ := h.begun hl
    generalize imgItems t d = l
    rcases Mm.Good.fillU (M0 := M) l (M.alloc k) _ [.root] g1 (h.begun_back hl) with ⟨a, T', g⟩ | ⟨a, b⟩
    · left
      refine ⟨a, k, T', rfl, h.born hl g.good g.ext g.le1, fun x hx => ?_, fun q hq hx => ?_, ?_⟩
      · obtain ⟨q, fl, y, e1, e2, e3, _, e4, e5, e6⟩ := g.pgs x hx
        exact ⟨q, fl, y, e1, e2, e3, e4, e5, e6⟩
      · show ((Mm.fillU k (M.alloc k) [.root] l).1.lk k q).1 = 0
        rw [g.ext.hd q hq (fun ⟨x, hx', e⟩ => hx x hx' e)]
        exact g3 q hq
      · have h2 := g.room
        have := nfree_take (R := M.R) (R' := (M.alloc k).R) hk (by omega) (by simp [Mm.alloc]) (fun i hi => by simp [Mm.alloc, hi])
        simp only [show (M.alloc k).n = M.n from rfl] at h2
        show nfree M.R M.n ≤ nfree (Mm.fillU k (M.alloc k) [.root] l).1.R M.n + 1 + 2 * l.length
        omega
    · exact .inr ⟨a, b⟩
/-- A page of a child's. -/
structure Childs (M N : Mm) (r o : Nat) (q : Nat) : Prop where
  none : (M.lk o q).1 = 0 → (N.lk r q).1 = 0
  own : ∀ fl x : Nat, M.lk o q = ((fl : Int), (x : Int)) → fl ≠ 0 → bits .and .i64 fl 4 = 0 → ∃ y : Nat, N.lk r q = ((fl : Int), (y : Int)) ∧ y ≠ x ∧ ∀ i, i < 64 → N.B y i = M.B x i
  shared : ∀ fl x : Nat, M.lk o q = ((fl : Int), (x : Int)) → fl ≠ 0 → bits .and .i64 fl 4 ≠ 0 → N.lk r q = ((fl : Int), (x : Int))
theorem pad_rd {M : Mm} {x : Nat} (hx : x < M.n) (h0 : 0 < M.R x) (i : Nat) (hi : i < 64) : pad (M.rd x) i = M.B x i := by
  have hu := Mm.isUsed_nat hx h0
  unfold Mm.rd
  rw [hu, if_pos rfl, Int.toNat_natCast]
  refine pad_at (by simp [Mm.str, Mm.bytes, ByteArray.size]; exact hi) ?_
  simp [Mm.str, Mm.bytes, hi]
/-- None of a space's pages is shared. -/
def NoShare (M : Mm) (o : Nat) : Prop := ∀ q, q < 256 → ∀ fl x : Nat, M.lk o q = ((fl : Int), (x : Int)) → bits .and .i64 fl 4 = 0
structure Forked (M N : Mm) (r o : Nat) (T' : Nat → Option Nat) (L : Sps) (E : Nat → Nat) (l : List Int) : Prop where
  good : N.Good ((r, T') :: L) E
  ext : M.Ext N r L E (fun q => (q : Int) ∈ l)
  pgs : ∀ q : Nat, q < 256 → (q : Int) ∈ l → (M.lk r q).1 = 0 ∧ Childs M N r o q
  le1 : NoShare M o → (∀ x, M.R x ≤ 1) → ∀ x, N.R x ≤ 1
  room : nfree M.R M.n ≤ nfree N.R M.n + 2 * l.length
theorem Mm.Good.forkU {r o : Nat} {To : Nat → Option Nat} {L : Sps} {E : Nat → Nat} {M0 : Mm} (hro : r ≠ o) (hL : (o, To) ∈ L) : ∀ (l : List Int) (M : Mm) (T : Nat → Option Nat) (U : List Und), M.Good ((r, T) :: L) E → M0.Eqv (M.undo r U.reverse) →
    (∀ p ∈ l, ∃ q : Nat, p = q ∧ q < 256 ∧ (M.lk o q).1 ≠ 0) →
    ((Mm.forkU r o M U l).2 = 0 ∧ ∃ T', Forked M (Mm.forkU r o M U l).1 r o T' L E l) ∨ ((Mm.forkU r o M U l).2 = 11 ∧ M0.Eqv (Mm.forkU r o M U l).1)
  | [], M, T, U, h, _, _ => .inl ⟨rfl, T, h, Mm.Ext.refl _ _ _ _ _, (fun q _ hq => by cases hq), (fun _ h => h), (by simp [Mm.forkU])⟩
  | p :: l, M, T, U, h, h0, hl => by
    obtain ⟨q, rfl, hq, hq0⟩ := hl p List.mem_cons_self
    obtain ⟨fl, x, hlk, hx, hf7, hf2⟩ := h.pg _ (List.mem_cons_of_mem _ hL) q hq hq0
    simp only at hlk
    have hpg := fun b hb => h.page (a := (o, To)) (b := b) (List.mem_cons_of_mem _ hL) hb (x := x) hq hq0 (by rw [hlk])
    have hxR : 0 < M.R x := (hpg _ List.mem_cons_self).2.1
    obtain ⟨cuo, hUo⟩ := (h.tre _ (List.mem_cons_of_mem _ hL)).tree
    have hwk : M.walk o q = ((x : Int), (fl : Int), 0) := by
      have := hUo.walk hq
      simp only at this
      rw [this, if_neg hq0, hlk]
    have step : ((M.forkStep r o q).2 = 0 ∧ ∃ (k : Nat) (T' : Nat → Option Nat), M.Mapped (M.forkStep r o q).1 r T L E q fl k T' ∧ M.Eqv ((M.forkStep r o q).1.unmaps r q) ∧ (NoShare M o → (∀ x, M.R x ≤ 1) → ∀ x, (M.forkStep r o q).1.R x ≤ 1) ∧ Childs M (M.forkStep r o q).1 r o q) ∨ ((M.forkStep r o q).2 = 11 ∧ M.Eqv (M.forkStep r o q).1) := by
      unfold Mm.forkStep
      rw [hwk]
      simp only
      by_cases hs : bits .and .i64 fl 4 = 0
      · rw [if_pos hs]
        rcases h.filled q fl (M.rd x) with ⟨a, q', fl', k, T', e1, e2, hk, hk0, hk1, hkB, hMp, hle1, hbk⟩ | c
        · left
          have : q' = q := by omega
          subst this
          have : fl' = fl := by omega
          subst this
          refine ⟨a, k, T', hMp, hbk, fun _ => hle1, fun e => absurd e hq0, fun f y e _ _ => ?_, fun f y e _ hf => ?_⟩
          · rw [hlk, Prod.mk.injEq] at e
            obtain ⟨ea, eb⟩ := e
            have : f = fl' := by omega
            subst this
            have : y = x := by omega
            subst this
            exact ⟨k, hMp.lk, fun e => by subst e; omega, fun i hi => by rw [hkB i, pad_rd hx hxR i hi]⟩
          · rw [hlk, Prod.mk.injEq] at e
            have : f = fl' := by omega
            subst this
            exact absurd hs hf
        · exact .inr c
      · rw [if_neg hs]
        have htr : ¬ treeFr ((r, T) :: L) x := fun ⟨b, hb, e⟩ => by
          have := hpg b hb
          rcases e with e | ⟨i, e⟩
          · exact this.2.2.1 e
          · exact this.2.2.2 i e
        rcases h.shared q fl x hx hxR htr with ⟨a, q', fl', T', e1, e2, hkB, hMp, hbk⟩ | c
        · left
          have : q' = q := by omega
          subst this
          have : fl' = fl := by omega
          subst this
          refine ⟨a, x, T', hMp, hbk, (fun hns => absurd (hns q' hq fl' x hlk) hs), fun e => absurd e hq0, fun f y e _ hf => ?_, fun f y e _ hf => ?_⟩
          · rw [hlk, Prod.mk.injEq] at e
            have : f = fl' := by omega
            subst this
            exact absurd hf hs
          · rw [hlk, Prod.mk.injEq] at e
            obtain ⟨ea, eb⟩ := e
            have : f = fl' := by omega
            subst this
            have : y = x := by omega
            subst this
            exact hMp.lk
        · exact .inr c
    unfold Mm.forkU
    rcases step with ⟨a, k, T', hMp, hbk, hl1, hC⟩ | ⟨a, b⟩
    · rw [if_pos a]
      generalize (M.forkStep r o q).1 = N at *
      rcases Mm.Good.forkU (M0 := M0) hro hL l N T' (U ++ [Und.page q]) hMp.good (undo_page h0 hbk) (fun p hp => by
        obtain ⟨y, e, hy, hy0⟩ := hl p (List.mem_cons_of_mem _ hp)
        exact ⟨y, e, hy, by rw [show N.lk o y = M.lk o y from hMp.ext.lk _ hL y hy]; exact hy0⟩) with ⟨c, T2, g⟩ | c
      · left
        have hBo : ∀ y, y < 256 → ∀ f z : Nat, M.lk o y = ((f : Int), (z : Int)) → f ≠ 0 → ∀ i, N.B z i = M.B z i := fun y hy f z e hf i => by
          have hz := h.page (a := (o, To)) (b := (o, To)) (List.mem_cons_of_mem _ hL) (List.mem_cons_of_mem _ hL) (x := z) hy (by show (M.lk o y).1 ≠ 0; rw [e]; simp only; omega) (by show (M.lk o y).2 = _; rw [e])
          have ho := own_page (M := M) (r := o) (T := To) (x := z) hy (by rw [e]; simp only; omega) (by rw [e])
          have hle := own_le (M := M) (x := z) hL
          simp only at hle
          exact hMp.ext.B z hz.1 (by omega) i
        refine ⟨c, T2, g.good, (hMp.ext.mono (fun _ e => e) (fun x e => by subst e; exact List.mem_cons_self)).trans (g.ext.mono (fun _ e => e) (fun x e => List.mem_cons_of_mem _ e)), fun y hy hm => ?_, ?_, ?_⟩
        · by_cases e : y = q
          · subst e
            have hnot : ¬ ((y : Int) ∈ l) := fun e => hMp.now (g.pgs y hy e).1
            refine ⟨hMp.was, fun e => absurd e hq0, fun f z e hf hb => ?_, fun f z e hf hb => ?_⟩
            · obtain ⟨w, e1, e2, e3⟩ := hC.own f z e hf hb
              refine ⟨w, by rw [g.ext.hd y hy hnot]; exact e1, e2, fun i hi => ?_⟩
              rw [g.ext.Bp y w hy hnot (by rw [e1]; simp only; omega) (by rw [e1])]
              exact e3 i hi
            · rw [g.ext.hd y hy hnot]
              exact hC.shared f z e hf hb
          · have hm' : (y : Int) ∈ l := (List.mem_cons.1 hm).resolve_left (by omega)
            obtain ⟨e1, e2⟩ := g.pgs y hy hm'
            have hlo : N.lk o y = M.lk o y := hMp.ext.lk _ hL y hy
            refine ⟨by rw [← hMp.ext.hd y hy e]; exact e1, fun e => e2.none (by rw [hlo]; exact e), fun f z e hf hb => ?_, fun f z e hf hb => e2.shared f z (by rw [hlo]; exact e) hf hb⟩
            obtain ⟨w, a1, a2, a3⟩ := e2.own f z (by rw [hlo]; exact e) hf hb
            exact ⟨w, a1, a2, fun i hi => by rw [a3 i hi, hBo y hy f z e hf i]⟩
        · intro hns h1
          refine g.le1 (fun y hy f z e => hns y hy f z ?_) (hl1 hns h1)
          rw [← e]; exact (hMp.ext.lk _ hL y hy).symm
        · have := hMp.room
          have h2 := g.room
          rw [hMp.ext.n] at h2
          simp only [List.length_cons]
          omega
      · exact .inr c
    · rw [if_neg (by omega)]
      exact .inr ⟨rfl, h0.trans (Mm.Eqv.undo _ b)⟩
end Go.Proofs.Ytlbgnmcjdmdjpaa
open Go Go.Proofs
namespace Go.Proofs.Ytlbgnmcjdmdjpaa
def sm (f : Nat → Nat) : Nat → Nat
  | 0 => 0
  | n + 1 => sm f n + f n
theorem sm_congr {f g : Nat → Nat} : ∀ n : Nat, (∀ i, i < n → f i = g i) → sm f n = sm g n
  | 0, _ => rfl
  | n + 1, h => by simp only [sm, sm_congr n (fun i hi => h i (by omega)), h n (by omega)]
theorem sm_add (f g : Nat → Nat) : ∀ n : Nat, sm (fun i => f i + g i) n = sm f n + sm g n
  | 0 => rfl
  | n + 1 => by simp only [sm, sm_add f g n]; omega
theorem sm_one {r : Nat} : ∀ n : Nat, sm (fun x => if x = r then 1 else 0) n = if r < n then 1 else 0
  | 0 => rfl
  | n + 1 => by
    simp only [sm, sm_one n]
    by_cases e : n = r
    · subst e; simp
    · by_cases e' : r < n
      · rw [if_pos e', if_neg e, if_pos (by omega)]
      · rw [if_neg e', if_neg e, if_neg (by omega)]
theorem sm_zero : ∀ n : Nat, sm (fun _ => 0) n = 0
  | 0 => rfl
  | n + 1 => by simp only [sm, sm_zero n]
/-- Each of m things is counted once, where it is. -/
theorem sm_cn {n : Nat} {P : Nat → Nat → Bool} {Q : Nat → Bool} {f : Nat → Nat} (h1 : ∀ i, Q i = true → f i < n ∧ ∀ x, P x i = decide (x = f i)) (h0 : ∀ i, Q i = false → ∀ x, x < n → P x i = false) : ∀ m : Nat, (∀ i, i < m → True) → sm (fun x => cn (P x) m) n = cn Q m
  | 0, _ => sm_zero n
  | m + 1, _ => by
    simp only [cn]
    rw [sm_add, sm_cn h1 h0 m (fun _ _ => trivial)]
    congr 1
    cases e : Q m with
    | true =>
      obtain ⟨a, b⟩ := h1 m e
      simp only [if_true]
      rw [sm_congr (g := fun x => if x = f m then 1 else 0) n (fun x _ => by rw [b x]; simp), sm_one, if_pos a]
    | false =>
      simp only [Bool.false_eq_true, if_false]
      rw [sm_congr (g := fun _ => 0) n (fun x hx => by rw [h0 m e x hx]; simp), sm_zero]
/-- So many frames are free as are counted by none. -/
theorem nfree_sm {R : Nat → Int} {c : Nat → Nat} : ∀ n : Nat, (∀ x, x < n → R x = (c x : Int) ∧ c x ≤ 1) → nfree R n + sm c n = n
  | 0, _ => rfl
  | n + 1, h => by
    have ih := nfree_sm n (fun x hx => h x (by omega))
    obtain ⟨a, b⟩ := h n (by omega)
    simp only [nfree, sm]
    rcases Nat.eq_zero_or_pos (c n) with e | e
    · rw [if_neg (by omega)]; omega
    · rw [if_pos (by omega)]; omega
def pcnt (M : Mm) (r : Nat) : Nat := cn (fun p => decide ((M.lk r p).1 ≠ 0)) 256
def tcn (T : Nat → Option Nat) : Nat := cn (fun i => (T i).isSome) 16
theorem sm_own {M : Mm} {r : Nat} {T : Nat → Option Nat} (h : M.Tre r T) (hp : ∀ p, p < 256 → (M.lk r p).1 ≠ 0 → ∃ y : Nat, (M.lk r p).2 = (y : Int) ∧ y < M.n) : sm (own M r T) M.n = 1 + tcn T + pcnt M r := by
  have e : sm (own M r T) M.n = sm (fun x => if x = r then 1 else 0) M.n + sm (fun x => cn (fun i => T i == some x) 16) M.n + sm (fun x => cn (fun p => decide (p < 256 ∧ (M.lk r p).1 ≠ 0 ∧ (M.lk r p).2 = (x : Int))) 256) M.n := by
    rw [← sm_add, ← sm_add]
    refine sm_congr _ (fun x _ => ?_)
    unfold own
    rw [cn_congr (P := fun p => decide ((M.lk r p).1 ≠ 0 ∧ (M.lk r p).2 = (x : Int))) (Q := fun p => decide (p < 256 ∧ (M.lk r p).1 ≠ 0 ∧ (M.lk r p).2 = (x : Int))) 256 (fun p hp => by simp [hp])]
  rw [e, sm_one, if_pos h.rn]
  have e1 : sm (fun x => cn (fun i => T i == some x) 16) M.n = tcn T := by
    refine sm_cn (P := fun x i => T i == some x) (Q := fun i => (T i).isSome) (f := fun i => (T i).getD 0) (fun i hi => ?_) (fun i hi x _ => ?_) 16 (fun _ _ => trivial)
    · cases e : T i with
      | none => rw [e] at hi; cases hi
      | some k =>
        refine ⟨(h.tb i k e).2.1, fun x => ?_⟩
        by_cases e2 : x = k
        · subst e2; simp
        · have : ¬ k = x := fun e => e2 e.symm
          simp [e2, this]
    · cases e : T i with
      | none => rfl
      | some k => rw [e] at hi; cases hi
  have e2 : sm (fun x => cn (fun p => decide (p < 256 ∧ (M.lk r p).1 ≠ 0 ∧ (M.lk r p).2 = (x : Int))) 256) M.n = cn (fun p => decide (p < 256 ∧ (M.lk r p).1 ≠ 0)) 256 := by
    refine sm_cn (P := fun x p => decide (p < 256 ∧ (M.lk r p).1 ≠ 0 ∧ (M.lk r p).2 = (x : Int))) (Q := fun p => decide (p < 256 ∧ (M.lk r p).1 ≠ 0)) (f := fun p => (M.lk r p).2.toNat) (fun p hq => ?_) (fun p hq x _ => ?_) 256 (fun _ _ => trivial)
    · have hq := of_decide_eq_true hq
      obtain ⟨y, e, hy⟩ := hp p hq.1 hq.2
      refine ⟨by rw [e]; simpa using hy, fun x => ?_⟩
      rw [Bool.eq_iff_iff]
      simp only [decide_eq_true_eq, e, Int.toNat_natCast]
      constructor
      · rintro ⟨_, _, h⟩; omega
      · intro h; exact ⟨hq.1, hq.2, by omega⟩
    · have hq := of_decide_eq_false hq
      exact decide_eq_false (fun h => hq ⟨h.1, h.2.1⟩)
  rw [e1, e2]
  unfold pcnt
  rw [cn_congr (P := fun p => decide ((M.lk r p).1 ≠ 0)) (Q := fun p => decide (p < 256 ∧ (M.lk r p).1 ≠ 0)) 256 (fun p hp => by simp [hp])]
def ssum (M : Mm) : Sps → Nat
  | [] => 0
  | a :: l => 1 + tcn a.2 + pcnt M a.1 + ssum M l
theorem sm_osum {M : Mm} : ∀ {L : Sps}, (∀ b ∈ L, M.Tre b.1 b.2 ∧ ∀ p, p < 256 → (M.lk b.1 p).1 ≠ 0 → ∃ y : Nat, (M.lk b.1 p).2 = (y : Int) ∧ y < M.n) → sm (fun x => osum M x L) M.n = ssum M L
  | [], _ => sm_zero _
  | a :: l, h => by
    have ih := sm_osum (L := l) (fun b hb => h b (List.mem_cons_of_mem _ hb))
    obtain ⟨h1, h2⟩ := h a List.mem_cons_self
    simp only [osum, ssum]
    rw [sm_add, ih, ← sm_own h1 h2]
/-- Where no frame is had twice: so many are left. -/
theorem Mm.Good.left {M : Mm} {L : Sps} {E : Nat → Nat} (h : M.Good L E) (h1 : ∀ x, M.R x ≤ 1) : nfree M.R M.n + sm E M.n + ssum M L = M.n := by
  have a := nfree_sm (R := M.R) (c := fun x => E x + osum M x L) M.n (fun x hx => by
    have c := h.cnt x hx
    have := h1 x
    exact ⟨c, by omega⟩)
  rw [sm_add, sm_osum (fun b hb => ⟨h.tre b hb, fun p hp h0 => by
    obtain ⟨fl, y, e, hy, _⟩ := h.pg b hb p hp h0
    exact ⟨y, by rw [e], hy⟩⟩)] at a
  omega
/-- How many tables there are hangs on the pages alone. -/
theorem tcn_pages {M N : Mm} {r s : Nat} {T T' : Nat → Option Nat} (h : M.Tre r T) (g : N.Tre s T') (hp : ∀ p, p < 256 → ((N.lk s p).1 ≠ 0 ↔ (M.lk r p).1 ≠ 0)) : tcn T' = tcn T := by
  have key : ∀ {M : Mm} {r : Nat} {T : Nat → Option Nat}, M.Tre r T → ∀ i, i < 16 → ((T i).isSome = true ↔ ∃ j, j < 16 ∧ (M.lk r (16 * i + j)).1 ≠ 0) := by
    intro M r T h i hi
    obtain ⟨cu, hU⟩ := h.tree
    have hlk : ∀ j, j < 16 → M.lk r (16 * i + j) = match T i with | none => (0, 0) | some k => M.ent k j := fun j hj => by
      have := Mm.lk_tree hU (p := 16 * i + j) (by omega)
      rwa [show (16 * i + j) / 16 = i by omega, show (16 * i + j) % 16 = j by omega] at this
    cases e : T i with
    | none =>
      constructor
      · intro h; cases h
      · rintro ⟨j, hj, hne⟩; rw [hlk j hj, e] at hne; exact absurd rfl hne
    | some k =>
      constructor
      · intro _
        obtain ⟨j, hj, hne⟩ := h.ne i k e
        exact ⟨j, hj, by rw [hlk j hj, e]; exact hne⟩
      · intro _; rfl
  unfold tcn
  refine cn_congr 16 (fun i hi => ?_)
  rw [Bool.eq_iff_iff, key h i hi, key g i hi]
  constructor
  · rintro ⟨j, hj, e⟩; exact ⟨j, hj, (hp _ (by omega)).1 e⟩
  · rintro ⟨j, hj, e⟩; exact ⟨j, hj, (hp _ (by omega)).2 e⟩
theorem pcnt_pages {M N : Mm} {r s : Nat} (hp : ∀ p, p < 256 → ((N.lk s p).1 ≠ 0 ↔ (M.lk r p).1 ≠ 0)) : pcnt N s = pcnt M r := by
  unfold pcnt
  refine cn_congr 256 (fun p hp' => ?_)
  rw [Bool.eq_iff_iff, decide_eq_true_eq, decide_eq_true_eq]
  exact hp p hp'
/-- What a space's pages are to a reader. -/
theorem Mm.Good.pgc {M : Mm} {L : Sps} {E : Nat → Nat} (h : M.Good L E) {a : Nat × (Nat → Option Nat)} (ha : a ∈ L) {q fl k : Nat} (hq : q < 256) (hl : M.lk a.1 q = ((fl : Int), (k : Int))) (hf : fl ≠ 0) : M.pgc a.1 q = some ((fl : Int), M.B k) := by
  obtain ⟨cu, hU⟩ := (h.tre a ha).tree
  have := hU.walk hq
  unfold Mm.pgc
  have h0 : ¬ (M.lk a.1 q).1 = 0 := by rw [hl]; simp only; omega
  rw [if_neg h0, hl] at this
  rw [this]
  rfl
theorem Mm.Good.data {M : Mm} {L : Sps} {E : Nat → Nat} (h : M.Good L E) (h1 : ∀ x, M.R x ≤ 1) {a : Nat × (Nat → Option Nat)} (ha : a ∈ L) : M.Data a.1 a.2 := by
  obtain ⟨cu, hU⟩ := (h.tre a ha).tree
  have hw : ∀ p : Int, (M.walk a.1 p).2.2 = 0 → ∃ q fl y : Nat, p = q ∧ q < 256 ∧ M.lk a.1 q = ((fl : Int), (y : Int)) ∧ fl ≠ 0 ∧ (M.walk a.1 p).1 = y := fun p hp => by
    by_cases hr : 0 ≤ p ∧ p ≤ 255
    · obtain ⟨q, rfl⟩ := Int.eq_ofNat_of_zero_le hr.1
      have hq : q < 256 := by omega
      have := hU.walk hq
      rw [this] at hp ⊢
      by_cases e : (M.lk a.1 q).1 = 0
      · rw [if_pos e] at hp; cases hp
      · rw [if_neg e]
        obtain ⟨fl, y, e1, _, _, e2⟩ := h.pg a ha q hq e
        exact ⟨q, fl, y, rfl, hq, e1, by omega, by rw [e1]⟩
    · rw [hU.walk_out hr] at hp; cases hp
  refine ⟨fun p hp => ?_, fun p p' hp hp' hpp => ?_⟩
  · obtain ⟨q, fl, y, rfl, hq, e1, e2, e3⟩ := hw p hp
    obtain ⟨b1, b2, b3, b4⟩ := h.page ha ha (x := y) hq (by rw [e1]; simp only; omega) (by rw [e1])
    exact ⟨y, e3, b1, b2, b3, b4⟩
  · obtain ⟨q, fl, y, rfl, hq, e1, e2, e3⟩ := hw p hp
    obtain ⟨q', fl', y', rfl, hq', e1', e2', e3'⟩ := hw p' hp'
    have hy : y' = y := by omega
    subst hy
    apply Classical.byContradiction
    intro hne
    have := own_two (M := M) (T := a.2) (x := y') hq hq' (fun e => hne (by rw [e])) (by rw [e1]; simp only; omega) (by rw [e1]) (by rw [e1']; simp only; omega) (by rw [e1'])
    have hle := own_le (M := M) (x := y') ha
    have c := h.cnt y' (h.page ha ha (x := y') hq (by rw [e1]; simp only; omega) (by rw [e1])).1
    have := h1 y'
    omega
/-- Bytes written into a space's pages. -/
theorem Mm.Good.outR {M N : Mm} {L : Sps} {E : Nat → Nat} (h : M.Good L E) (h1 : ∀ x, M.R x ≤ 1) {a : Nat × (Nat → Option Nat)} (ha : a ∈ L) {a0 a1 : Nat} {s : ByteArray} (ho : OutR M N a.1 a.2 a0 a1 s) (hok : ∀ i : Nat, a0 ≤ i → i < a1 → (M.walk a.1 ((i : Int) / 64)).2.2 = 0) : N.Good L E ∧ ∀ b ∈ L, ∀ q, q < 256 → N.lk b.1 q = M.lk b.1 q := by
  refine h.bytes ho.tab.n (fun x _ => by rw [ho.tab.R]) (fun x hx o => ?_)
  refine ho.keep x (fun i hi1 hi2 e => ?_) o
  obtain ⟨cu, hU⟩ := (h.tre a ha).tree
  have hz := hok i hi1 hi2
  obtain ⟨k, e1, e2, e3, e4, e5⟩ := (h.data h1 ha).fr _ hz
  have hk : k = x := by omega
  subst hk
  obtain ⟨b, hb, hbx⟩ := hx
  by_cases hr : 0 ≤ (i : Int) / 64 ∧ (i : Int) / 64 ≤ 255
  · have hq : i / 64 < 256 := by omega
    have hw := hU.walk hq
    rw [show ((i / 64 : Nat) : Int) = (i : Int) / 64 by omega] at hw
    rw [hw] at hz e1
    by_cases e0 : (M.lk a.1 (i / 64)).1 = 0
    · rw [if_pos e0] at hz; cases hz
    · rw [if_neg e0] at e1
      have := h.page ha hb (x := k) hq e0 e1
      rcases hbx with e | ⟨j, e⟩
      · exact this.2.2.1 e
      · exact this.2.2.2 j e
  · rw [hU.walk_out hr] at hz; cases hz
end Go.Proofs.Ytlbgnmcjdmdjpaa
open Go Go.Proofs
namespace Go.Proofs.Ytlbgnmcjdmdjpaa
/-- A child is forked: its pages are its own, but for shared ones. -/
theorem Mm.Good.fork {M : Mm} {o : Nat} {To : Nat → Option Nat} {L : Sps} {E : Nat → Nat} (h : M.Good L E) (hL : (o, To) ∈ L) :
    ((M.fork o).2.2 = 0 ∧ ∃ (k : Nat) (T' : Nat → Option Nat), (M.fork o).2.1 = k ∧ k < M.n ∧ M.R k = 0 ∧ k ≠ o ∧ (M.fork o).1.Good ((k, T') :: L) E ∧ (M.fork o).1.n = M.n ∧
      (∀ b ∈ L, ∀ q, q < 256 → (M.fork o).1.lk b.1 q = M.lk b.1 q) ∧ (∀ x, x < M.n → 0 < E x + osum M x L → ∀ i, (M.fork o).1.B x i = M.B x i) ∧
      (∀ q, q < 256 → Childs M (M.fork o).1 k o q) ∧ (NoShare M o → (∀ x, M.R x ≤ 1) → ∀ x, (M.fork o).1.R x ≤ 1) ∧ nfree M.R M.n ≤ nfree (M.fork o).1.R M.n + 1 + 2 * (M.pgs o).length) ∨
    ((M.fork o).2.2 = 11 ∧ M.Eqv (M.fork o).1) := by
  cases hl : M.least with
  | none =>
    right
    have : M.fork o = (M, 0, 11) := by unfold Mm.fork; rw [hl]
    rw [this]; exact ⟨rfl, Mm.Eqv.refl M⟩
  | some k =>
    obtain ⟨hk, hz, -⟩ := Mm.least_spec hl
    obtain ⟨g1, g2, g3⟩ := h.begun hl
    obtain ⟨f1, f2, f3⟩ := h.free0 hk hz
    have hko : k ≠ o := by intro e; subst e; have := (h.tre _ hL).rR; simp only at this; omega
    have hlo : ∀ q, q < 256 → (M.alloc k).lk o q = M.lk o q := fun q hq => g2 _ hL q hq
    have hps : (M.alloc k).pgs o = M.pgs o := by
      unfold Mm.pgs
      rw [Mm.pages_eq, Mm.pages_eq]
      exact congrArg _ (Mm.pgL_congr (M := M.alloc k) (M' := M) 256 (fun p hp => by rw [hlo p hp]))
    have hX : M.fork o = ((Mm.forkU k o (M.alloc k) [.root] (M.pgs o)).1, (k : Int), (Mm.forkU k o (M.alloc k) [.root] (M.pgs o)).2) := by unfold Mm.fork; rw [hl]; simp only; rw [hps]
    rw [hX]
    have hm : ∀ q : Nat, (q : Int) ∈ M.pgs o ↔ q < 256 ∧ (M.lk o q).1 ≠ 0 := fun q => Mm.mem_pgs
    have hm2 : ∀ p ∈ M.pgs o, ∃ q : Nat, p = q := fun p hp => by
      unfold Mm.pgs at hp
      obtain ⟨q, _, e⟩ := List.mem_map.1 hp
      exact ⟨q, e.symm⟩
    generalize M.pgs o = l at hm hm2
    have hBo : ∀ q, q < 256 → ∀ f x : Nat, M.lk o q = ((f : Int), (x : Int)) → f ≠ 0 → x < M.n ∧ 0 < E x + osum M x L := fun q hq f x e hf => by
      have hx := h.page hL hL (x := x) hq (by show (M.lk o q).1 ≠ 0; rw [e]; simp only; omega) (by show (M.lk o q).2 = _; rw [e])
      have ho := own_page (M := M) (r := o) (T := To) (x := x) hq (by rw [e]; simp only; omega) (by rw [e])
      have hle := own_le (M := M) (x := x) hL
      simp only at hle
      exact ⟨hx.1, by omega⟩
    have hB1 : ∀ x, x < M.n → 0 < E x + osum M x L → ∀ i, (M.alloc k).B x i = M.B x i := fun x hx ho i => by
      have : x ≠ k := by intro e; subst e; have := h.used hx ho; omega
      simp [Mm.alloc, this]
    have hos : ∀ x, osum (M.alloc k) x L = osum M x L := fun x => osum_congr (fun b hb => own_congr (g2 b hb) x)
    rcases Mm.Good.forkU (M0 := M) (o := o) (To := To) hko hL l (M.alloc k) _ [.root] g1 (h.begun_back hl) (fun p hp => by
      obtain ⟨q, rfl⟩ := hm2 p hp
      obtain ⟨a, b⟩ := (hm q).1 hp
      exact ⟨q, rfl, a, by rw [hlo q a]; exact b⟩) with ⟨a, T', g⟩ | ⟨a, b⟩
    · left
      refine ⟨a, k, T', rfl, hk, f1, hko, g.good, g.ext.n, fun b hb q hq => (g.ext.lk b hb q hq).trans (g2 b hb q hq), fun x hx ho i => ?_, fun q hq => ?_, fun hns h1 => g.le1 (fun q hq f x e => hns q hq f x (by rw [← hlo q hq]; exact e)) (fun x => by (simp only [Mm.alloc]; split; exact Int.le_refl _; exact h1 x)), ?_⟩
      · rw [g.ext.B x hx (by rw [hos]; exact ho)]
        exact hB1 x hx ho i
      · by_cases e : (q : Int) ∈ l
        · obtain ⟨_, c⟩ := g.pgs q hq e
          have e2 := hlo q hq
          refine ⟨fun e => c.none (by rw [e2]; exact e), fun f x e hf hb => ?_, fun f x e hf hb => c.shared f x (by rw [e2]; exact e) hf hb⟩
          obtain ⟨y, c1, c2, c3⟩ := c.own f x (by rw [e2]; exact e) hf hb
          obtain ⟨d1, d2⟩ := hBo q hq f x e hf
          exact ⟨y, c1, c2, fun i hi => by rw [c3 i hi, hB1 x d1 d2]⟩
        · have h0 : (M.lk o q).1 = 0 := by
            apply Classical.byContradiction
            intro hne
            exact e ((hm q).2 ⟨hq, hne⟩)
          refine ⟨fun _ => ?_, fun f x e hf _ => ?_, fun f x e hf _ => ?_⟩
          · show ((Mm.forkU k o (M.alloc k) [.root] l).1.lk k q).1 = 0
            rw [g.ext.hd q hq e]
            exact g3 q hq
          · rw [e] at h0; simp only at h0; omega
          · rw [e] at h0; simp only at h0; omega
      · have h2 := g.room
        have := nfree_take (R := M.R) (R' := (M.alloc k).R) hk (by omega) (by simp [Mm.alloc]) (fun i hi => by simp [Mm.alloc, hi])
        simp only [show (M.alloc k).n = M.n from rfl] at h2
        show nfree M.R M.n ≤ nfree (Mm.forkU k o (M.alloc k) [.root] l).1.R M.n + 1 + 2 * l.length
        omega
    · exact .inr ⟨a, b⟩
end Go.Proofs.Ytlbgnmcjdmdjpaa
open Go Go.Proofs
namespace Go.Proofs.Ytlbgnmcjdmdjpaa
theorem itemsL_at (fl : Int) : ∀ (l : List ByteArray) (p i : Nat), i < l.length → ∃ x ∈ itemsL p fl l, x.1 = ((p + i : Nat) : Int) ∧ x.2.1 = fl
  | [], p, i, h => by cases h
  | s :: l, p, i, h => by
    unfold itemsL
    cases i with
    | zero => exact ⟨_, List.mem_cons_self, by simp, rfl⟩
    | succ j =>
      obtain ⟨x, hx, e1, e2⟩ := itemsL_at fl l (p + 1) j (by simpa using h)
      exact ⟨x, List.mem_cons_of_mem _ (by simpa using hx), by rw [e1]; omega, e2⟩
theorem good_new (n : Nat) (h : n ≤ 256) : (Mm.mk n (fun _ => 0) (fun _ _ => 0)).Good [] (fun _ => 0) :=
  ⟨h, (fun a ha => by cases ha), (fun a ha => by cases ha), fun _ _ => rfl⟩
/-- An image without text in a new memory. -/
structure Img90 (M : Mm) (T : Nat → Option Nat) (e : Nat) : Prop where
  good : M.Good [(0, T)] (fun _ => 0)
  n : M.n = 90
  le1 : ∀ x, M.R x ≤ 1
  low : ∀ q, q < e → ∃ y : Nat, M.lk 0 q = (3, (y : Int))
  mid : ∀ q, e ≤ q → q < 254 → (M.lk 0 q).1 = 0
  flags : ∀ q, q < 256 → (M.lk 0 q).1 = 0 ∨ (M.lk 0 q).1 = 3
  room : 69 ≤ nfree M.R M.n
theorem img90 (d : ByteArray) (hd : d.size ≤ 200) : ∃ (M : Mm) (T : Nat → Option Nat), (Mm.mk 90 (fun _ => 0) (fun _ _ => 0)).exec ByteArray.empty d = (M, 0, 0) ∧ Img90 M T (spn 0 d.size) ∧ spn 0 d.size ≤ 4 := by
  have hs : spn 0 d.size ≤ 4 := by unfold spn; split <;> omega
  obtain ⟨x0, -, -, -⟩ := exec_new 90 (by omega) (by omega) ByteArray.empty d (by decide) hd
  have hlen := (imgItems_lays (M := (Mm.mk 90 (fun _ => 0) (fun _ _ => 0)).alloc 0) (r := 0) (Mm.one_new 90 (by omega) (by omega)).2 ByteArray.empty d (by decide) hd).2
  rcases (good_new 90 (by omega)).exec ByteArray.empty d with ⟨a, k, T, hk, hB, hp, hn, hr⟩ | ⟨a, _⟩
  rotate_left
  · rw [x0] at a; cases a
  obtain ⟨⟨M, r, e⟩, hX⟩ : ∃ X, (Mm.mk 90 (fun _ => 0) (fun _ _ => 0)).exec ByteArray.empty d = X := ⟨_, rfl⟩
  rw [hX] at x0 hk hB hp hn hr
  cases x0
  simp only at hk hB hp hn hr
  have : k = 0 := by omega
  subst this
  have hl := leavesL_len _ d (Nat.le_refl _)
  have hI : imgItems ByteArray.empty d = itemsL ((0 : Nat) : Int) 3 (leavesL d) ++ stackL := by
    unfold imgItems
    rw [leavesL_zero (s := ByteArray.empty) rfl]
    rfl
  rw [hI] at hp hn hr hlen
  have hfl : ∀ x ∈ itemsL ((0 : Nat) : Int) 3 (leavesL d) ++ stackL, x.2.1 = 3 := fun x hx => by
    rcases List.mem_append.1 hx with h | h
    · obtain ⟨i, _, _, e⟩ := itemsL_mem 3 _ 0 x h; exact e
    · simp only [stackL, List.mem_cons, List.not_mem_nil, or_false] at h
      rcases h with rfl | rfl <;> rfl
  refine ⟨M, T, hX, ⟨hB.good, hB.n, hB.le1 (fun x => (by decide : (0 : Int) ≤ 1)), fun q hq => ?_, fun q h1 h2 => ?_, fun q hq => ?_, ?_⟩, hs⟩
  · obtain ⟨x, hx, e1, e2⟩ := itemsL_at 3 (leavesL d) 0 q (by omega)
    obtain ⟨q', fl, y, f1, f2, f3, f4, f5, f6⟩ := hp x (List.mem_append_left _ hx)
    have : q' = q := by omega
    subst this
    have : fl = 3 := by omega
    subst this
    exact ⟨y, f4⟩
  · refine hn q (by omega) (fun x hx => ?_)
    rcases List.mem_append.1 hx with h | h
    · obtain ⟨i, hi, e, _⟩ := itemsL_mem 3 _ 0 x h
      omega
    · simp only [stackL, List.mem_cons, List.not_mem_nil, or_false] at h
      rcases h with rfl | rfl <;> simp only <;> omega
  · by_cases h : ∃ x ∈ itemsL ((0 : Nat) : Int) 3 (leavesL d) ++ stackL, x.1 = (q : Int)
    · obtain ⟨x, hx, e⟩ := h
      obtain ⟨q', fl, y, f1, f2, f3, f4, f5, f6⟩ := hp x hx
      have : q' = q := by omega
      subst this
      have := hfl x hx
      right
      rw [show ((0 : Nat) : Int) = 0 from rfl] at f4
      rw [f4]; simp only; omega
    · left
      exact hn q hq (fun x hx e => h ⟨x, hx, e⟩)
  · rw [hB.n]
    have hz : nfree (fun _ => (0 : Int)) 90 = 90 := by decide
    simp only [hz] at hr
    show 69 ≤ nfree M.R 90
    omega
theorem mem_upFrom {e n : Nat} {q : Nat} : (q : Int) ∈ upFrom (e : Int) n ↔ e ≤ q ∧ q < e + n := by
  unfold upFrom
  rw [List.mem_map]
  constructor
  · rintro ⟨i, hi, h⟩; have := List.mem_range.1 hi; omega
  · rintro ⟨a, b⟩; exact ⟨q - e, List.mem_range.2 (by omega), by omega⟩
theorem mem_upFrom' {e n : Nat} {p : Int} (h : p ∈ upFrom (e : Int) n) : ∃ q : Nat, p = q ∧ e ≤ q ∧ q < e + n := by
  unfold upFrom at h
  obtain ⟨i, hi, h⟩ := List.mem_map.1 h
  have := List.mem_range.1 hi
  exact ⟨e + i, by omega, by omega, by omega⟩
theorem mem_downFrom {e n : Nat} {q : Nat} (hn : n ≤ e) : (q : Int) ∈ downFrom ((e : Int) - 1) n ↔ e - n ≤ q ∧ q < e := by
  unfold downFrom
  rw [List.mem_map]
  constructor
  · rintro ⟨i, hi, h⟩; have := List.mem_range.1 hi; omega
  · rintro ⟨a, b⟩; exact ⟨e - 1 - q, List.mem_range.2 (by omega), by omega⟩
theorem upFrom_nodup (a : Int) (n : Nat) : (upFrom a n).Nodup := by
  unfold upFrom
  rw [List.nodup_iff_pairwise_ne, List.pairwise_map]
  exact List.nodup_range.imp (fun h e => h (by omega))
theorem upFrom_len (a : Int) (n : Nat) : (upFrom a n).length = n := by simp [upFrom]
/-- A heap grows. -/
theorem Mm.Good.grow_up {M : Mm} {r : Nat} {T : Nat → Option Nat} {L : Sps} {E : Nat → Nat} (h : M.Good ((r, T) :: L) E) {s : Spc} {e n : Nat} (hr : s.root = r) (he : s.end_ = e) (hh : 0 ≤ s.heap) (hn : e + n ≤ 128) (h0 : ∀ q, e ≤ q → q < e + n → (M.lk r q).1 = 0) (hroom : 2 * n ≤ nfree M.R M.n) :
    ∃ (N : Mm) (T' : Nat → Option Nat), M.grow s n = (N, 0) ∧ Grown M N r T' L E (upFrom e n) := by
  have hok := Mm.Good.growU_ok (upFrom (e : Int) n) M T [] h (upFrom_nodup _ _) (fun p hp => by
    obtain ⟨q, rfl, a, b⟩ := mem_upFrom' hp
    exact ⟨q, rfl, by omega, h0 q a b⟩) (by rw [upFrom_len]; exact hroom)
  obtain ⟨_, T', g⟩ := (Mm.Good.growU (M0 := M) (upFrom (e : Int) n) M T [] h (Mm.Eqv.refl M)).resolve_right (fun c => by rw [hok] at c; exact absurd c.1 (by decide))
  refine ⟨_, T', ?_, g⟩
  unfold Mm.grow
  rw [hr, he, if_neg (by omega), Int.toNat_natCast, if_pos hok]
  have : (-(n : Int)).toNat = 0 := by omega
  rw [this]
  rfl
/-- A heap shrinks. -/
theorem Mm.Good.grow_down {M : Mm} {r : Nat} {T : Nat → Option Nat} {L : Sps} {E : Nat → Nat} (h : M.Good ((r, T) :: L) E) {s : Spc} {e n : Nat} (hr : s.root = r) (he : s.end_ = e) (hh : (n : Int) ≤ s.heap) (hn0 : 0 < n) (hn : e ≤ 128) (hne : n ≤ e) :
    ∃ (N : Mm) (T' : Nat → Option Nat), M.grow s (-(n : Int)) = (N, 0) ∧ N.Good ((r, T') :: L) E ∧ M.Ext N r L E (fun q => e - n ≤ q ∧ q < e) ∧ (∀ q, e - n ≤ q → q < e → (N.lk r q).1 = 0) ∧ ((∀ x, M.R x ≤ 1) → ∀ x, N.R x ≤ 1) := by
  obtain ⟨T', g1, g2, g3, g4⟩ := Mm.Good.cutL (downFrom ((e : Int) - 1) n) M T h
  refine ⟨_, T', ?_, g1, g2.mono (fun _ e => e) (fun q hq => (mem_downFrom hne).1 hq), fun q a b => g3 q (by omega) ((mem_downFrom hne).2 ⟨a, b⟩), g4⟩
  unfold Mm.grow
  have e1 : (-(n : Int)).toNat = 0 := by omega
  have e2 : (- -(n : Int)).toNat = n := by omega
  rw [hr, he, if_neg (by omega), e1, e2]
  have e3 : Mm.growU r M [] (upFrom (e : Int) 0) = (M, 0) := rfl
  rw [e3, if_pos rfl]
/-- What was told of a child's bytes. -/
theorem forks_law {M N : Mm} {L : Sps} {E : Nat → Nat} (h : M.Good L E) (h1 : ∀ x, M.R x ≤ 1) {a b : Nat × (Nat → Option Nat)} (ha : a ∈ L) (hb : b ∈ L) (hab : a.1 ≠ b.1) {e : Nat} (he : e ≤ 4)
    (hpa : ∀ q, q ≤ e → ∃ fl x : Nat, M.lk a.1 q = ((fl : Int), (x : Int)) ∧ fl ≠ 0 ∧ (q = e → fl = 3)) (hpb : ∀ q, q ≤ e → ∃ fl x : Nat, M.lk b.1 q = ((fl : Int), (x : Int)) ∧ fl ≠ 0 ∧ (q = e → M.B x 0 = 111 ∧ M.B x 1 = 108 ∧ M.B x 2 = 100))
    {s : ByteArray} (hs : s.size ≤ 60) {i j k o : Int} {was is_ got : ByteArray} (r1 : InR M b.1 0 (64 * e + 64) i was) (r2 : ChkR M a.1 (64 * e) s.size true j)
    (r3 : (j ≠ 0 ∧ N = M) ∨ (j = 0 ∧ OutR M N a.1 a.2 (64 * e) (64 * e + s.size) s)) (r4 : InR N b.1 0 (64 * e + 64) k is_) (r5 : InR N a.1 (64 * e) s.size o got) :
    i = 0 ∧ j = 0 ∧ k = 0 ∧ o = 0 ∧ is_ = was ∧ got = s ∧ was.size = 64 * e + 64 ∧ was.extract (64 * e) (64 * e + 3) = ⟨#[111, 108, 100]⟩ := by
  have hua : ∀ {K : Mm} {c : Nat × (Nat → Option Nat)}, K.Good L E → c ∈ L → K.isUsed c.1 = true := fun hG hc => by
    have := hG.tre _ hc
    exact Mm.isUsed_nat this.rn (by rw [this.rR]; decide)
  have b3 : bits .and .i64 3 2 ≠ 0 := by decide
  have hpga : ∀ q, q ≤ e → ∃ fl x : Nat, M.pgc a.1 q = some ((fl : Int), M.B x) ∧ (q = e → fl = 3) := fun q hq => by
    obtain ⟨fl, x, e1, e2, e3⟩ := hpa q hq
    exact ⟨fl, x, h.pgc ha (by omega) e1 e2, e3⟩
  have hj : j = 0 := chk_pgc (hua h ha) (64 * e) s.size true (by omega) (by omega) (fun t ht => by
    obtain ⟨fl, x, e1, e2⟩ := hpga e (Nat.le_refl _)
    have := e2 rfl
    subst this
    exact ⟨3, M.B x, by rw [show ((64 * e + t : Nat) : Int) / 64 = (e : Int) by omega]; exact e1, fun _ => b3⟩) (by rw [show ((64 * e : Nat) : Int) = 64 * (e : Int) by omega]; exact r2)
  subst hj
  have ho := (r3.resolve_left (fun h => h.1 rfl)).2
  have hok : ∀ t : Nat, 64 * e ≤ t → t < 64 * e + s.size → (M.walk a.1 ((t : Int) / 64)).2.2 = 0 := fun t t1 t2 => by
    obtain ⟨fl, x, e1, _⟩ := hpga e (Nat.le_refl _)
    have e2 : ((t : Int) / 64) = (e : Int) := by omega
    exact (Mm.vb_pgc (i := t) (by rw [e2]; exact e1)).1
  obtain ⟨hN, hlk⟩ := h.outR h1 ha ho hok
  -- the reader's bytes
  have hsz : ((64 * e + 64 : Nat) : Int) = 64 * (e : Int) + 64 := by omega
  obtain ⟨W, hW⟩ : ∃ W : ByteArray, W = M.vstr b.1 0 (64 * e + 64) := ⟨_, rfl⟩
  have hWl : W.data.toList = M.vs b.1 0 (64 * e + 64) := by rw [hW]; rfl
  have hWs : W.size = 64 * e + 64 := by
    have : W.data.toList.length = 64 * e + 64 := by rw [hWl, Mm.vs_len]
    simpa using this
  have hWb : ∀ t, t < 64 * e + 64 → W.data.toList[t]? = some (M.vb b.1 t) := fun t ht => by
    rw [hWl]; unfold Mm.vs
    rw [List.getElem?_map, List.getElem?_range ht, Option.map_some, Nat.zero_add]
  have hpgb : ∀ q, q ≤ e → ∃ fl x : Nat, M.lk b.1 q = ((fl : Int), (x : Int)) ∧ fl ≠ 0 ∧ M.pgc b.1 q = some ((fl : Int), M.B x) ∧ N.pgc b.1 q = some ((fl : Int), N.B x) ∧ (∀ t, N.B x t = M.B x t) ∧ (q = e → M.B x 0 = 111 ∧ M.B x 1 = 108 ∧ M.B x 2 = 100) := fun q hq => by
    obtain ⟨fl, x, e1, e2, e3⟩ := hpb q hq
    refine ⟨fl, x, e1, e2, h.pgc hb (by omega) e1 e2, hN.pgc hb (by omega) (by rw [hlk b hb q (by omega)]; exact e1) e2, fun t => ho.keep x (fun y y1 y2 e4 => ?_) t, e3⟩
    obtain ⟨fa, xa, f1, f2, _⟩ := hpa e (Nat.le_refl _)
    obtain ⟨cu, hU⟩ := (h.tre a ha).tree
    have hw := hU.walk (p := e) (by omega)
    have f0 : ¬ (M.lk a.1 e).1 = 0 := by rw [f1]; simp only; omega
    rw [if_neg f0, f1] at hw
    rw [show (y : Int) / 64 = (e : Int) by omega, hw] at e4
    have : xa = x := by simp only at e4; omega
    subst this
    have o1 := own_page (M := M) (r := a.1) (T := a.2) (x := xa) (p := e) (by omega) f0 (by rw [f1])
    have o2 := own_page (M := M) (r := b.1) (T := b.2) (x := xa) (p := q) (by omega) (by rw [e1]; simp only; omega) (by rw [e1])
    have hx := h.page ha ha (x := xa) (p := e) (by omega) f0 (by rw [f1])
    have c := h.cnt xa hx.1
    have c1 := h1 xa
    obtain ⟨L1, L2, hL⟩ := List.append_of_mem ha
    have hq2 : L.Perm (a :: (L1 ++ L2)) := by rw [hL]; exact List.perm_middle
    have hb2 := (List.mem_cons.1 (hq2.mem_iff.1 hb)).resolve_left (fun e => hab (by rw [e]))
    have l2 := own_le (M := M) (x := xa) hb2
    rw [osum_perm hq2] at c
    simp only [osum] at c
    omega
  have hvb : ∀ t, t < 64 * e + 64 → ∃ fl f, M.pgc b.1 (((0 + t : Nat) : Int) / 64) = some (fl, f) ∧ W.data.toList[t]? = some (f ((0 + t) % 64)) := fun t ht => by
    obtain ⟨fl, x, _, _, e1, _, _, _⟩ := hpgb (t / 64) (by omega)
    have e4 : ((t / 64 : Nat) : Int) = (t : Int) / 64 := by omega
    rw [e4] at e1
    refine ⟨fl, M.B x, by rw [Nat.zero_add]; exact e1, ?_⟩
    rw [hWb t ht, (Mm.vb_pgc e1).2.2, Nat.zero_add]
  obtain ⟨hi, hwas⟩ := inr_pgc (hua h hb) 0 W (by omega) (by omega) (fun t ht => hvb t (by omega)) (by rw [hWs, hsz]; exact r1)
  obtain ⟨hk, his⟩ := inr_pgc (hua hN hb) 0 W (by omega) (by omega) (fun t ht => by
    obtain ⟨fl, x, _, _, e1, e2, e3, _⟩ := hpgb (t / 64) (by omega)
    have e4 : ((t / 64 : Nat) : Int) = (t : Int) / 64 := by omega
    rw [e4] at e1 e2
    refine ⟨fl, N.B x, by rw [Nat.zero_add]; exact e2, ?_⟩
    rw [hWb t (by omega), (Mm.vb_pgc e1).2.2, Nat.zero_add, e3]) (by rw [hWs, hsz]; exact r4)
  obtain ⟨ho', hgot⟩ := inr_pgc (hua hN ha) (64 * e) s (by omega) (by omega) (fun t ht => by
    obtain ⟨fl, x, f1, f2, f3⟩ := hpa e (Nat.le_refl _)
    have e1 := hN.pgc ha (q := e) (by omega) (by rw [hlk a ha e (by omega)]; exact f1) f2
    have e4 : ((64 * e + t : Nat) : Int) / 64 = (e : Int) := by omega
    refine ⟨fl, N.B x, by rw [e4]; exact e1, ?_⟩
    have hv := ho.vb (64 * e + t) (hok (64 * e + t) (by omega) (by omega))
    rw [if_pos (by omega)] at hv
    have hl : s.data.toList.length = s.size := by simp
    have hv2 := (Mm.vb_pgc (M := N) (r := a.1) (i := 64 * e + t) (fl := fl) (b := N.B x) (by rw [e4]; exact e1)).2.2
    rw [← hv2, hv, show 64 * e + t - 64 * e = t by omega, List.getElem?_eq_getElem (by omega)]
    rfl) (by rw [show ((64 * e : Nat) : Int) = 64 * (e : Int) by omega]; exact r5)
  refine ⟨hi, rfl, hk, ho', by rw [his, hwas], hgot, by rw [hwas, hWs], ?_⟩
  rw [hwas]
  obtain ⟨fl, x, _, _, e1, _, _, e6⟩ := hpgb e (Nat.le_refl _)
  obtain ⟨g0, g1, g2⟩ := e6 rfl
  have hb3 : ∀ t, t < 64 → W.data.toList[64 * e + t]? = some (M.B x t) := fun t ht => by
    rw [hWb _ (by omega), (Mm.vb_pgc (i := 64 * e + t) (fl := fl) (b := M.B x) (by rw [show ((64 * e + t : Nat) : Int) / 64 = (e : Int) by omega]; exact e1)).2.2, show (64 * e + t) % 64 = t by omega]
  have : (W.extract (64 * e) (64 * e + 3)).data.toList = [111, 108, 100] := by
    rw [ByteArray.data_extract, Array.toList_extract, List.extract_eq_take_drop, show 64 * e + 3 - 64 * e = 3 by omega]
    have d0 := hb3 0 (by omega)
    have d1 := hb3 1 (by omega)
    have d2 := hb3 2 (by omega)
    rw [g0] at d0
    rw [g1] at d1
    rw [g2] at d2
    apply List.ext_getElem?
    intro t
    rw [List.getElem?_take]
    have : t = 0 ∨ t = 1 ∨ t = 2 ∨ 3 ≤ t := by omega
    rcases this with rfl | rfl | rfl | ht
    · rw [if_pos (by omega), List.getElem?_drop, d0]; rfl
    · rw [if_pos (by omega), List.getElem?_drop, d1]; rfl
    · rw [if_pos (by omega), List.getElem?_drop, d2]; rfl
    · rw [if_neg (by omega), List.getElem?_eq_none (by simpa using ht)]
  cases hx : W.extract (64 * e) (64 * e + 3) with
  | mk arr =>
    rw [hx] at this
    have h2 : arr.toList = [111, 108, 100] := this
    have : arr = #[111, 108, 100] := by rw [← Array.toList_inj]; exact h2
    rw [this]
end Go.Proofs.Ytlbgnmcjdmdjpaa
open Go Go.Proofs
namespace Go.Proofs.Ytlbgnmcjdmdjpaa
theorem Mm.Good.forkU_ok {r o : Nat} {To : Nat → Option Nat} {L : Sps} {E : Nat → Nat} (hro : r ≠ o) (hL : (o, To) ∈ L) : ∀ (l : List Int) (M : Mm) (T : Nat → Option Nat) (U : List Und), M.Good ((r, T) :: L) E → NoShare M o → l.Nodup →
    (∀ p ∈ l, ∃ q : Nat, p = q ∧ q < 256 ∧ (M.lk o q).1 ≠ 0 ∧ (M.lk r q).1 = 0) → 2 * l.length ≤ nfree M.R M.n → (Mm.forkU r o M U l).2 = 0
  | [], M, T, U, h, _, _, _, _ => rfl
  | p :: l, M, T, U, h, hns, hnd, hl, hroom => by
    obtain ⟨q, rfl, hq, hq0, hqr⟩ := hl p List.mem_cons_self
    simp only [List.length_cons] at hroom
    obtain ⟨fl, x, hlk, hx, hf7, hf2⟩ := h.pg _ (List.mem_cons_of_mem _ hL) q hq hq0
    simp only at hlk
    obtain ⟨cuo, hUo⟩ := (h.tre _ (List.mem_cons_of_mem _ hL)).tree
    have hwk : M.walk o q = ((x : Int), (fl : Int), 0) := by
      have := hUo.walk hq
      simp only at this
      rw [this, if_neg hq0, hlk]
    have hs := hns q hq fl x hlk
    have hst : M.forkStep r o q = M.filled r q fl (M.rd x) := by
      unfold Mm.forkStep
      rw [hwk]
      simp only
      rw [if_pos hs]
    have a := h.filled_ok hq hf7 hf2 hqr (by omega) (M.rd x)
    obtain ⟨_, q', fl', k, T', e1, _, _, _, _, _, hMp, _⟩ := (h.filled q fl (M.rd x)).resolve_right (fun g => by rw [a] at g; exact absurd g.1 (by decide))
    have e : q' = q := by omega
    subst e
    unfold Mm.forkU
    rw [hst, if_pos a]
    have h2 := hMp.room
    have hlo : ∀ y, y < 256 → (M.filled r q' fl (M.rd x)).1.lk o y = M.lk o y := fun y hy => hMp.ext.lk _ hL y hy
    refine Mm.Good.forkU_ok hro hL l _ T' _ hMp.good (fun y hy f z e => hns y hy f z (by rw [← hlo y hy]; exact e)) (List.nodup_cons.1 hnd).2 (fun p hp => ?_) (by rw [hMp.ext.n]; omega)
    obtain ⟨y, rfl, hy, hy0, hyr⟩ := hl p (List.mem_cons_of_mem _ hp)
    refine ⟨y, rfl, hy, by rw [hlo y hy]; exact hy0, ?_⟩
    rw [hMp.ext.hd y hy (fun e => by subst e; exact (List.nodup_cons.1 hnd).1 hp)]
    exact hyr
theorem cn_le {P : Nat → Bool} {a b : Nat} : ∀ n : Nat, (∀ q, q < n → P q = true → q < a ∨ b ≤ q) → cn P n ≤ a + (n - b)
  | 0, _ => Nat.zero_le _
  | n + 1, h => by
    have ih := cn_le (P := P) (a := a) (b := b) n (fun q hq => h q (by omega))
    simp only [cn]
    cases e : P n with
    | false => simp; omega
    | true =>
      rcases h n (by omega) e with h1 | h1
      · have : cn P n ≤ n := by
          clear ih h e h1
          induction n with
          | zero => exact Nat.le_refl _
          | succ n ih => simp only [cn]; split <;> omega
        simp; omega
      · simp; omega
theorem pgL_cn (M : Mm) (r : Int) : ∀ n : Nat, (M.pgL r n).length = cn (fun p => decide ((M.lk r p).1 ≠ 0)) n
  | 0 => rfl
  | n + 1 => by
    rw [Mm.pgL_succ, List.length_append, pgL_cn M r n]
    simp only [cn]
    by_cases e : (M.lk r n).1 = 0
    · simp [e]
    · simp [e]
theorem pgs_len (M : Mm) (r : Int) : (M.pgs r).length = cn (fun p => decide ((M.lk r p).1 ≠ 0)) 256 := by
  unfold Mm.pgs
  rw [Mm.pages_eq, List.length_map]
  exact pgL_cn M r 256
theorem pgs_nodup (M : Mm) (r : Int) : (M.pgs r).Nodup := by
  unfold Mm.pgs
  rw [Mm.pages_eq]
  unfold Mm.pages Mm.pgL
  rw [List.nodup_iff_pairwise_ne, List.pairwise_map]
  exact (List.nodup_range.filter _).imp (fun h e => h (by omega))
/-- A child is forked where there is room. -/
theorem Mm.Good.fork_ok {M : Mm} {o : Nat} {To : Nat → Option Nat} {L : Sps} {E : Nat → Nat} (h : M.Good L E) (hL : (o, To) ∈ L) (hns : NoShare M o) (hroom : 1 + 2 * (M.pgs o).length ≤ nfree M.R M.n) : (M.fork o).2.2 = 0 := by
  obtain ⟨k, hl⟩ := M.room (by omega)
  obtain ⟨hk, hz, -⟩ := Mm.least_spec hl
  obtain ⟨g1, g2, g3⟩ := h.begun hl
  have hko : k ≠ o := by intro e; subst e; have := (h.tre _ hL).rR; simp only at this; omega
  have hlo : ∀ q, q < 256 → (M.alloc k).lk o q = M.lk o q := fun q hq => g2 _ hL q hq
  have hps : (M.alloc k).pgs o = M.pgs o := by
    unfold Mm.pgs
    rw [Mm.pages_eq, Mm.pages_eq]
    exact congrArg _ (Mm.pgL_congr (M := M.alloc k) (M' := M) 256 (fun p hp => by rw [hlo p hp]))
  have hX : (M.fork o).2.2 = (Mm.forkU k o (M.alloc k) [.root] (M.pgs o)).2 := by unfold Mm.fork; rw [hl]; simp only; rw [hps]
  rw [hX]
  have hm : ∀ q : Nat, (q : Int) ∈ M.pgs o ↔ q < 256 ∧ (M.lk o q).1 ≠ 0 := fun q => Mm.mem_pgs
  have hm2 : ∀ p ∈ M.pgs o, ∃ q : Nat, p = q := fun p hp => by
    unfold Mm.pgs at hp
    obtain ⟨q, _, e⟩ := List.mem_map.1 hp
    exact ⟨q, e.symm⟩
  have hnd := pgs_nodup M o
  generalize M.pgs o = l at hm hm2 hnd hroom
  refine Mm.Good.forkU_ok hko hL l (M.alloc k) _ [.root] g1 (fun q hq f x e => hns q hq f x (by rw [← hlo q hq]; exact e)) hnd (fun p hp => ?_) ?_
  · obtain ⟨q, rfl⟩ := hm2 p hp
    obtain ⟨a, b⟩ := (hm q).1 hp
    exact ⟨q, rfl, a, by rw [hlo q a]; exact b, g3 q a⟩
  · have := nfree_take (R := M.R) (R' := (M.alloc k).R) hk (by omega) (by simp [Mm.alloc]) (fun i hi => by simp [Mm.alloc, hi])
    show 2 * l.length ≤ nfree (M.alloc k).R M.n
    omega
def oldS : ByteArray := ⟨#[111, 108, 100]⟩
structure Ready (M : Mm) (k : Nat) (Tk T : Nat → Option Nat) (e : Nat) : Prop where
  good : M.Good [(k, Tk), (0, T)] (fun _ => 0)
  le1 : ∀ x, M.R x ≤ 1
  ne : k ≠ 0
  pa : ∀ q, q ≤ e → ∃ x : Nat, M.lk 0 q = (3, (x : Int)) ∧ (q = e → M.B x 0 = 111 ∧ M.B x 1 = 108 ∧ M.B x 2 = 100)
  pb : ∀ q, q ≤ e → ∃ x : Nat, M.lk k q = (3, (x : Int)) ∧ (q = e → M.B x 0 = 111 ∧ M.B x 1 = 108 ∧ M.B x 2 = 100)
theorem forks_ready {M1 : Mm} {T1 : Nat → Option Nat} {e n : Nat} (h : Img90 M1 T1 e) (he : e ≤ 4) (h1 : 1 ≤ n) (h9 : n ≤ 9) (atts : List Att) :
    ∃ (M2 : Mm) (T2 : Nat → Option Nat), M1.grow ⟨0, 0, e, 0, atts⟩ n = (M2, 0) ∧ M2.Good [(0, T2)] (fun _ => 0) ∧ (∀ x, M2.R x ≤ 1) ∧ (∀ er, ChkR M2 0 (64 * e) 3 true er → er = 0) ∧
      ∀ M3, OutR M2 M3 0 T2 (64 * e) (64 * e + 3) oldS → ∃ (M4 : Mm) (k : Nat) (Tk : Nat → Option Nat), M3.fork 0 = (M4, (k : Int), 0) ∧ Ready M4 k Tk T2 e := by
  obtain ⟨M2, T2, hg, hG⟩ := h.good.grow_up (s := ⟨0, 0, e, 0, atts⟩) (e := e) (n := n) rfl (by simp [Spc.end_]) (Int.le_refl _) (by omega) (fun q a b => h.mid q a (by omega)) (by have := h.room; omega)
  have hle := hG.le1 h.le1
  have hn2 : M2.n = 90 := hG.ext.n.trans h.n
  have hroom : 51 ≤ nfree M2.R M2.n := by
    have a := hG.room
    have b := h.room
    rw [upFrom_len] at a
    rw [hG.ext.n]
    omega
  have hlow : ∀ q, q < e → ∃ y : Nat, M2.lk 0 q = (3, (y : Int)) := fun q hq => by
    obtain ⟨y, hy⟩ := h.low q hq
    exact ⟨y, by rw [← hy]; exact hG.ext.hd q (by omega) (fun hm => by have := mem_upFrom.1 hm; omega)⟩
  have hmid : ∀ q, e ≤ q → q < e + n → ∃ k : Nat, M2.lk 0 q = (3, (k : Int)) ∧ ∀ o, M2.B k o = 0 := fun q a b => by
    obtain ⟨q', k, e1, e2, e3, e4, e5⟩ := hG.pgs q (mem_upFrom.2 ⟨a, b⟩)
    have : q' = q := by omega
    subst this
    exact ⟨k, e4, e5⟩
  have hrest : ∀ q, e + n ≤ q → q < 256 → M2.lk 0 q = M1.lk 0 q := fun q a b => hG.ext.hd q b (fun hm => by have := mem_upFrom.1 hm; omega)
  have h3 : ∀ q, q < 256 → (M2.lk 0 q).1 = 0 ∨ (M2.lk 0 q).1 = 3 := fun q hq => by
    rcases Nat.lt_or_ge q e with a | a
    · obtain ⟨y, hy⟩ := hlow q a; right; rw [hy]
    · rcases Nat.lt_or_ge q (e + n) with b | b
      · obtain ⟨y, hy, _⟩ := hmid q a b; right; rw [hy]
      · rw [hrest q b hq]; exact h.flags q hq
  have hu : M2.isUsed 0 = true := by
    have := hG.good.tree
    exact Mm.isUsed_nat (k := 0) this.rn (by rw [this.rR]; decide)
  obtain ⟨ke, hke, hkz⟩ := hmid e (Nat.le_refl _) (by omega)
  have hpe : M2.pgc 0 e = some (3, M2.B ke) := hG.good.pgc (a := (0, T2)) List.mem_cons_self (q := e) (fl := 3) (by omega) hke (by decide)
  refine ⟨M2, T2, hg, hG.good, hle, fun er hc => chk_pgc hu (64 * e) 3 true (by omega) (by omega) (fun t ht => ⟨3, M2.B ke, by rw [show ((64 * e + t : Nat) : Int) / 64 = (e : Int) by omega]; exact hpe, fun _ => by decide⟩) (by rw [show ((64 * e : Nat) : Int) = 64 * (e : Int) by omega]; exact hc), fun M3 ho => ?_⟩
  have hok : ∀ t : Nat, 64 * e ≤ t → t < 64 * e + 3 → (M2.walk 0 ((t : Int) / 64)).2.2 = 0 := fun t t1 t2 => by
    have e2 : ((t : Int) / 64) = (e : Int) := by omega
    exact (Mm.vb_pgc (i := t) (by rw [e2]; exact hpe)).1
  obtain ⟨g3, hlk3⟩ := hG.good.outR hle (a := (0, T2)) List.mem_cons_self ho hok
  have hlk3 : ∀ q, q < 256 → M3.lk 0 q = M2.lk 0 q := fun q hq => hlk3 _ List.mem_cons_self q hq
  have hle3 : ∀ x, M3.R x ≤ 1 := fun x => by rw [ho.tab.R]; exact hle x
  have hB3 : M3.B ke 0 = 111 ∧ M3.B ke 1 = 108 ∧ M3.B ke 2 = 100 := by
    have key : ∀ t, t < 3 → M3.B ke t = (oldS.data.toList[t]?).getD 0 := fun t ht => by
      have hv : M3.vb 0 (64 * e + t) = _ := ho.vb (64 * e + t) (hok _ (by omega) (by omega))
      rw [if_pos (by omega)] at hv
      have e1 := g3.pgc (a := (0, T2)) List.mem_cons_self (q := e) (fl := 3) (k := ke) (by omega) (by rw [show ((0, T2) : Nat × (Nat → Option Nat)).1 = 0 from rfl, show (((0 : Nat) : Int)) = 0 from rfl, hlk3 e (by omega)]; exact hke) (by decide)
      have hv2 := (Mm.vb_pgc (M := M3) (r := 0) (i := 64 * e + t) (fl := 3) (b := M3.B ke) (by rw [show ((64 * e + t : Nat) : Int) / 64 = (e : Int) by omega]; exact e1)).2.2
      rw [show (64 * e + t) % 64 = t by omega] at hv2
      rw [← hv2, hv, show 64 * e + t - 64 * e = t by omega]
    exact ⟨key 0 (by decide), key 1 (by decide), key 2 (by decide)⟩
  have hns : NoShare M3 0 := fun q hq f x hx => by
    have := h3 q hq
    rw [← hlk3 q hq] at this
    rw [show (((0 : Nat) : Int)) = 0 from rfl] at hx
    rw [hx] at this
    simp only at this
    rcases this with e | e <;> rw [e] <;> decide
  have hlen : (M3.pgs (0 : Nat)).length ≤ 15 := by
    rw [pgs_len]
    have := cn_le (P := fun p => decide ((M3.lk (0 : Nat) p).1 ≠ 0)) (a := e + n) (b := 254) 256 (fun q hq hp => by
      have hp := of_decide_eq_true hp
      rw [show (((0 : Nat) : Int)) = 0 from rfl, hlk3 q hq] at hp
      rcases Nat.lt_or_ge q (e + n) with b | b
      · exact .inl b
      · right
        apply Classical.byContradiction
        intro hlt
        rw [hrest q b hq] at hp
        exact hp (h.mid q (by omega) (by omega)))
    omega
  have hok4 := g3.fork_ok (o := 0) (To := T2) List.mem_cons_self hns (by rw [ho.tab.n, ho.tab.R]; omega)
  obtain ⟨-, k, Tk, hk, hkn, hk0, hko, g4, hn4, hlk4, hB4, hC, hl4, -⟩ := (g3.fork (o := 0) (To := T2) List.mem_cons_self).resolve_right (fun c => by rw [hok4] at c; exact absurd c.1 (by decide))
  obtain ⟨⟨M4, ka, kb⟩, hX⟩ : ∃ X, M3.fork ((0 : Nat) : Int) = X := ⟨_, rfl⟩
  rw [hX] at hok4 hk g4 hn4 hlk4 hB4 hC hl4
  simp only at hok4 hk g4 hn4 hlk4 hB4 hC hl4
  subst hok4 hk
  have hq2 : ∀ q, q ≤ e → ∃ x : Nat, M3.lk 0 q = (3, (x : Int)) ∧ (q = e → x = ke) := fun q hq => by
    rcases Nat.lt_or_ge q e with a | a
    · obtain ⟨y, hy⟩ := hlow q a
      exact ⟨y, by rw [hlk3 q (by omega)]; exact hy, fun e => by omega⟩
    · have : q = e := by omega
      subst this
      exact ⟨ke, by rw [hlk3 q (by omega)]; exact hke, fun _ => rfl⟩
  refine ⟨M4, k, Tk, by rw [← hX]; rfl, ⟨g4, hl4 hns hle3, hko, fun q hq => ?_, fun q hq => ?_⟩⟩
  · obtain ⟨x, e1, e2⟩ := hq2 q hq
    refine ⟨x, by rw [← e1]; exact hlk4 (0, T2) List.mem_cons_self q (by omega), fun hqe => ?_⟩
    have := e2 hqe
    subst this
    have hx := g3.page (a := (0, T2)) (b := (0, T2)) List.mem_cons_self List.mem_cons_self (x := x) (p := q) (by omega) (by show (M3.lk 0 q).1 ≠ 0; rw [e1]; exact (by decide : (3 : Int) ≠ 0)) (by show (M3.lk 0 q).2 = _; rw [e1])
    have ho' := own_page (M := M3) (r := 0) (T := T2) (x := x) (p := q) (by omega) (by show (M3.lk 0 q).1 ≠ 0; rw [e1]; exact (by decide : (3 : Int) ≠ 0)) (by show (M3.lk 0 q).2 = _; rw [e1])
    have hb := hB4 x hx.1 (by simp only [osum]; omega)
    rw [hb, hb, hb]
    exact hB3
  · obtain ⟨x, e1, e2⟩ := hq2 q hq
    obtain ⟨y, c1, c2, c3⟩ := (hC q (by omega)).own 3 x e1 (by decide) (by decide)
    refine ⟨y, c1, fun hqe => ?_⟩
    have := e2 hqe
    subst this
    rw [c3 0 (by omega), c3 1 (by omega), c3 2 (by omega)]
    exact hB3
end Go.Proofs.Ytlbgnmcjdmdjpaa
