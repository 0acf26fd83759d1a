/- files: what the two answer is the same. Condition: the same rows. -/
import Derived.Test.YtcllofffbmbmlaaRf
import Derived.Test.YtcllofffbmbmlaaM
namespace Go.Proofs.Ytcllofffbmbmlaa
open Go.RowKit Go.Shelf

/-- The two hold the same, and not too much. -/
structure Eqv (L : List Ent) (R : List Fr) (last : Nat) (b : Nat) : Prop where
  rel : ∃ φ, Rl L R last φ
  c32 : cnt L ≤ 32
  len : L.length ≤ 8 * b
  lst : last ≤ b
  rng : ∀ e ∈ L, e.fd < 8
theorem Rl.none {L : List Ent} {R : List Fr} {last : Nat} {φ : Nat → Int} (h : Rl L R last φ) {p q : Int} : fat R p q = none ↔ ent L p q = none := by
  rw [h.at]; simp
theorem Rl.len {L : List Ent} {R : List Fr} {last : Nat} {φ : Nat → Int} (h : Rl L R last φ) : R.length = L.length := by
  rw [h.perm.length_eq, List.length_map]
theorem Eqv.rlen {L : List Ent} {R : List Fr} {last b : Nat} (h : Eqv L R last b) : R.length ≤ 8 * b := by
  obtain ⟨φ, hr⟩ := h.rel
  rw [hr.len]; exact h.len
theorem Eqv.nil : Eqv [] [] 0 0 := ⟨⟨_, Rl.nil⟩, by simp [cnt], by simp, Nat.le_refl _, fun e h => by simp at h⟩
theorem Eqv.up {L : List Ent} {R : List Fr} {last b : Nat} (h : Eqv L R last b) : Eqv L R last (b + 1) := ⟨h.rel, h.c32, by have := h.len; omega, by have := h.lst; omega, h.rng⟩
theorem Eqv.fkey {L : List Ent} {R : List Fr} {last b : Nat} (h : Eqv L R last b) : FKey R := by
  obtain ⟨φ, hr⟩ := h.rel
  unfold FKey
  have hk := hr.key
  unfold Keyd at hk
  have : (L.map (cv φ)).Pairwise (fun a b => ¬ (a.pid = b.pid ∧ a.fd = b.fd)) := by
    rw [List.pairwise_map]
    refine hk.imp ?_
    intro a b hab hh
    simp only [cv] at hh
    exact hab ⟨hh.1, by omega⟩
  exact (hr.perm.pairwise_iff (fun {x y} hxy hh => hxy ⟨hh.1.symm, hh.2.symm⟩)).2 this
theorem least_eq {P : Nat → Prop} {k k' : Nat} (h1 : P k) (h2 : ∀ j, j < k → ¬ P j) (h3 : P k') (h4 : ∀ j, j < k' → ¬ P j) : k = k' := by
  rcases Nat.lt_trichotomy k k' with h | h | h
  · exact absurd h1 (h4 k h)
  · exact h
  · exact absurd h3 (h2 k' h)
theorem open_eq {L L' : List Ent} {R R' : List Fr} {last last' b : Nat} {p K T r er k er' : Int} (h : Eqv L R last b) (h1 : OpenR L p K T L' r er) (h2 : OpenF R last p K T R' last' k er') : r = k ∧ er = er' ∧ Eqv L' R' last' (b + 1) := by
  obtain ⟨φ, hr⟩ := h.rel
  have hn := fun (i : Nat) => hr.none (p := p) (q := i)
  have hc := hr.ncnt
  have h32 := h.c32
  cases h1 with
  | arg ha =>
    cases h2 with
    | arg _ => exact ⟨rfl, rfl, h.up⟩
    | fds _ _ _ _ => omega
    | files _ _ _ _ _ _ _ => omega
    | ok _ _ _ _ _ _ _ _ => omega
  | fds a1 a2 a3 a4 =>
    cases h2 with
    | arg _ => omega
    | fds _ _ _ _ => exact ⟨rfl, rfl, h.up⟩
    | files k _ _ _ hk hf _ => exact absurd ((hn k).1 hf) (a4 k hk)
    | ok k _ _ _ hk hf _ _ => exact absurd ((hn k).1 hf) (a4 k hk)
  | files i a1 a2 a3 hi a4 a5 =>
    cases h2 with
    | arg _ => omega
    | fds _ _ _ b4 => exact absurd ((hn i).2 a4) (b4 i hi)
    | files _ _ _ _ _ _ _ => exact ⟨rfl, rfl, h.up⟩
    | ok _ _ _ _ _ _ _ _ => omega
  | ok i blk a1 a2 a3 hi a4 a5 a6 a7 =>
    cases h2 with
    | arg _ => omega
    | fds _ _ _ b4 => exact absurd ((hn i).2 a4) (b4 i hi)
    | files _ _ _ _ _ _ _ => omega
    | ok j _ _ _ hj b4 b5 b6 =>
      have e : i = j := least_eq (P := fun n : Nat => ent L p n = none) a4 a5 ((hn j).1 b4) (fun n hlt hh => b5 n hlt ((hn n).2 hh))
      subst e
      refine ⟨rfl, rfl, ⟨_, hr.anew a4 a7⟩, ?_, ?_, ?_, ?_⟩
      · rw [cnt]; split <;> omega
      · have := h.len; simp; omega
      · have := h.lst; omega
      · intro e he
        rcases List.mem_cons.1 he with rfl | he
        · exact hi
        · exact h.rng e he
theorem ent_mem2 {L : List Ent} (hk : Keyd L) {e : Ent} (he : e ∈ L) : ent L e.pid e.fd = some e := by
  cases hx : ent L e.pid e.fd with
  | none =>
    unfold ent at hx
    rw [List.find?_eq_none] at hx
    have := hx e he
    simp at this
  | some x =>
    obtain ⟨h1, h2, h3⟩ := ent_some hx
    rw [keyd_eq hk h1 he ⟨h2, by omega⟩]
theorem drop_sub2 {L : List Ent} {pid : Int} {e : Ent} {i : Nat} (hx : e ∈ dropTo L pid i) : e ∈ L := by
  induction i with
  | zero => exact hx
  | succ i ih =>
    unfold dropTo at hx
    split at hx
    · exact ih hx
    · exact ih (del_sub hx)
theorem fnd_none {L : List Ent} {p q er : Int} (h : fnd L p q = (none, er)) : (p < 1 ∧ er = 2) ∨ (1 ≤ p ∧ ent L p q = none ∧ er = 80) := by
  unfold fnd at h
  by_cases hp : p < 1
  · rw [if_pos hp] at h
    simp only [Prod.mk.injEq, true_and] at h
    exact .inl ⟨hp, h.symm⟩
  · rw [if_neg hp] at h
    right
    cases he : ent L p q with
    | none =>
      rw [he] at h
      simp only [Prod.mk.injEq, true_and] at h
      exact ⟨by omega, rfl, h.symm⟩
    | some e => rw [he] at h; simp at h
theorem dup_eq {L L' : List Ent} {R R' : List Fr} {last b : Nat} {p q r er k er' : Int} (h : Eqv L R last b) (h1 : DupR L p q L' r er) (h2 : DupF R p q R' k er') : r = k ∧ er = er' ∧ Eqv L' R' last (b + 1) := by
  obtain ⟨φ, hr⟩ := h.rel
  have hn := fun (i : Nat) => hr.none (p := p) (q := i)
  have hq := hr.none (p := p) (q := q)
  have h32 := h.c32
  cases h1 with
  | err _ a0 a1 =>
    rcases fnd_none a1 with ⟨a2, rfl⟩ | ⟨a2, a3, rfl⟩
    · cases h2 with
      | arg _ => exact ⟨rfl, rfl, h.up⟩
      | fd _ _ => omega
      | fds _ _ _ _ => omega
      | ok _ _ _ _ _ _ _ => omega
    · cases h2 with
      | arg _ => omega
      | fd _ _ => exact ⟨rfl, rfl, h.up⟩
      | fds x _ b2 _ => rw [hq.2 a3] at b2; cases b2
      | ok x _ _ b2 _ _ _ => rw [hq.2 a3] at b2; cases b2
  | fds e a1 a2 a3 =>
    cases h2 with
    | arg _ => omega
    | fd _ b2 => rw [hq.1 b2] at a2; cases a2
    | fds x _ b2 _ => exact ⟨rfl, rfl, h.up⟩
    | ok x j _ b2 hj b3 _ => exact absurd ((hn j).1 b3) (a3 j hj)
  | ok e i a1 a2 hi a3 a4 =>
    cases h2 with
    | arg _ => omega
    | fd _ b2 => rw [hq.1 b2] at a2; cases a2
    | fds x _ b2 b3 => exact absurd ((hn i).2 a3) (b3 i hi)
    | ok x j _ b2 hj b3 b4 =>
      have e1 : i = j := least_eq (P := fun n : Nat => ent L p n = none) a3 a4 ((hn j).1 b3) (fun n hlt hh => b4 n hlt ((hn n).2 hh))
      subst e1
      have hx : x = cv φ e := by
        rw [hr.at, a2] at b2
        exact (Option.some.inj b2).symm
      subst hx
      have he := (ent_some a2).1
      refine ⟨rfl, rfl, ⟨_, hr.more he a3 _ _⟩, ?_, ?_, ?_, ?_⟩
      · rw [cnt, if_neg (by have := refs_pos he; simp only; omega)]; exact h32
      · have := h.len; simp; omega
      · have := h.lst; omega
      · intro e he
        rcases List.mem_cons.1 he with rfl | he
        · exact hi
        · exact h.rng e he
theorem close_eq {L L' : List Ent} {R R' : List Fr} {last b : Nat} {p q K T er K' T' er' : Int} {g g' : Bool} (h : Eqv L R last b) (h1 : CloseR L p q L' K T g er) (h2 : CloseF R p q R' K' T' g' er') : K = K' ∧ T = T' ∧ g = g' ∧ er = er' ∧ Eqv L' R' last (b + 1) := by
  obtain ⟨φ, hr⟩ := h.rel
  have hq := hr.none (p := p) (q := q)
  have h32 := h.c32
  cases h1 with
  | err _ a0 a1 =>
    rcases fnd_none a1 with ⟨a2, rfl⟩ | ⟨a2, a3, rfl⟩
    · cases h2 with
      | arg _ => exact ⟨rfl, rfl, rfl, rfl, h.up⟩
      | fd _ _ => omega
      | ok _ _ _ => omega
    · cases h2 with
      | arg _ => omega
      | fd _ _ => exact ⟨rfl, rfl, rfl, rfl, h.up⟩
      | ok x _ b2 => rw [hq.2 a3] at b2; cases b2
  | ok e a1 a2 =>
    cases h2 with
    | arg _ => omega
    | fd _ b2 => rw [hq.1 b2] at a2; cases a2
    | ok x _ b2 =>
      have hx : x = cv φ e := by
        rw [hr.at, a2] at b2
        exact (Option.some.inj b2).symm
      subst hx
      have he := (ent_some a2).1
      refine ⟨rfl, rfl, ?_, rfl, ⟨_, hr.less p q⟩, ?_, ?_, ?_, fun e he => h.rng e (del_sub he)⟩
      · rw [show (cv φ e).file = φ e.blk from rfl, hr.left he p q]
      · have := cnt_del hr.key a2; omega
      · have h1 := h.len
        have h2 : (del L p q).length ≤ L.length := List.length_filter_le _ _
        omega
      · have := h.lst; omega
theorem get_eq {L : List Ent} {R : List Fr} {last b : Nat} (h : Eqv L R last b) (p q : Int) : rgetV R p q = getV L p q := by
  obtain ⟨φ, hr⟩ := h.rel
  unfold rgetV getV
  rw [hr.at]
  by_cases hp : p < 1
  · rw [if_pos hp, if_pos hp]
  · rw [if_neg hp, if_neg hp]
    cases ent L p q with
    | none => rfl
    | some e => rfl
theorem forkTo_le (L : List Ent) (p c : Int) : ∀ n, (forkTo L p c n).length ≤ L.length + n
  | 0 => by simp [forkTo]
  | n + 1 => by
    have := forkTo_le L p c n
    unfold forkTo
    split
    · omega
    · simp; omega
theorem kids_len {L : List Ent} {R : List Fr} {last b : Nat} (h : Eqv L R last b) (p c : Int) : R.length + (kids R p c).length ≤ 8 * (b + 1) := by
  obtain ⟨φ, hr⟩ := h.rel
  have hf := fork_perm hr.key p c 8
  have h1 := hf.length_eq
  rw [List.length_append, List.length_map] at h1
  have h2 := forkTo_le L p c 8
  have h3 := h.len
  have e1 : L.filter (fun e => decide (e.pid = p ∧ e.fd < 8)) = L.filter (fun e => decide (e.pid = p)) := List.filter_congr (fun e he => by
    have := h.rng e he
    by_cases hh : e.pid = p
    · rw [decide_eq_true (⟨hh, this⟩ : e.pid = p ∧ e.fd < 8), decide_eq_true hh]
    · rw [decide_eq_false (fun x => hh x.1), decide_eq_false hh])
  have h4 : (kids R p c).length = (L.filter (fun e => decide (e.pid = p))).length := by
    unfold kids
    rw [List.length_map, (hr.perm.filter _).length_eq, List.filter_map, List.length_map]
    rfl
  rw [hr.len, h4, ← e1]
  omega
theorem fork_eq {L L' : List Ent} {R R' : List Fr} {last b : Nat} {p c er er' : Int} (h : Eqv L R last b) (hk : Keyd L') (h1 : ForkR L p c L' er) (h2 : ForkF R p c R' er') : er = er' ∧ Eqv L' R' last (b + 1) := by
  obtain ⟨φ, hr⟩ := h.rel
  have hex : (∃ x ∈ R, x.pid = c) ↔ ∃ e ∈ L, e.pid = c := by
    constructor
    · rintro ⟨x, hx, hp⟩
      obtain ⟨e, he, rfl⟩ := List.mem_map.1 (hr.perm.mem_iff.1 hx)
      exact ⟨e, he, hp⟩
    · rintro ⟨e, he, hp⟩
      exact ⟨cv φ e, hr.perm.mem_iff.2 (List.mem_map_of_mem he), hp⟩
  cases h1 with
  | arg ha =>
    cases h2 with
    | arg _ => exact ⟨rfl, h.up⟩
    | some x _ _ _ _ => omega
    | ok _ _ _ => omega
  | some k a1 a2 hk8 a3 =>
    cases h2 with
    | arg _ => exact ⟨rfl, h.up⟩
    | some x _ _ _ _ => exact ⟨rfl, h.up⟩
    | ok _ _ b3 =>
      cases he : ent L c k with
      | none => exact absurd he a3
      | some e =>
        obtain ⟨e1, e2, _⟩ := ent_some he
        obtain ⟨x, hx, hp⟩ := hex.2 ⟨e, e1, e2⟩
        exact absurd hp (b3 x hx)
  | ok a1 a2 a3 =>
    cases h2 with
    | arg _ => omega
    | some x _ _ hx hp =>
      obtain ⟨e, he, hp2⟩ := hex.1 ⟨x, hx, hp⟩
      have := ent_mem2 hr.key he
      rw [hp2] at this
      rw [a3 e.fd] at this
      cases this
    | ok _ _ b3 =>
      refine ⟨rfl, ⟨_, hr.fork h.rng p c hk⟩, ?_, ?_, ?_, ?_⟩
      · rw [cnt_forkTo]; exact h.c32
      · have := forkTo_le L p c 8; have := h.len; omega
      · have := h.lst; omega
      · intro e he
        have hp := (fork_perm hr.key p c 8).mem_iff.1 he
        rcases List.mem_append.1 hp with hp | hp
        · obtain ⟨x, hx, rfl⟩ := List.mem_map.1 hp
          exact h.rng x (List.mem_filter.1 hx).1
        · exact h.rng e hp
theorem drop_rel {L : List Ent} {R : List Fr} {last : Nat} {φ : Nat → Int} (h : Rl L R last φ) {p : Int} (hp : 1 ≤ p) : ∀ i, Rl (dropTo L p i) (fdropTo R p i) last φ ∧ foutTo R p i = outTo L p i
  | 0 => ⟨h, rfl⟩
  | i + 1 => by
    obtain ⟨ih, io⟩ := drop_rel h hp i
    have hp' : ¬ p < 1 := by omega
    have he : ent (dropTo L p i) p i = ent L p i := by rw [ent_dropTo, if_neg (by omega)]
    have hf : fat (fdropTo R p i) p i = (ent L p i).map (cv φ) := by rw [ih.at, he]
    unfold dropTo fdropTo foutTo outTo
    rw [if_neg hp', if_neg hp', hf, io]
    cases hx : ent L p i with
    | none =>
      rw [hx] at hf
      rw [fdel_none hf]
      exact ⟨ih, rfl⟩
    | some e =>
      rw [hx] at he
      refine ⟨ih.less p i, ?_⟩
      simp only [Option.map_some]
      rw [show (cv φ e).file = φ e.blk from rfl, ih.left (ent_some he).1 p i]
      rfl
theorem drop_bad_rel {R : List Fr} {p : Int} (hp : p < 1) : ∀ i, fdropTo R p i = R ∧ foutTo R p i = []
  | 0 => ⟨rfl, rfl⟩
  | i + 1 => by
    obtain ⟨h1, h2⟩ := drop_bad_rel (R := R) hp i
    unfold fdropTo foutTo
    rw [if_pos hp, if_pos hp]
    exact ⟨h1, h2⟩
theorem drop_eq {L : List Ent} {R : List Fr} {last b : Nat} (h : Eqv L R last b) {p : Int} (hp : 1 ≤ p) : foutTo R p 8 = outTo L p 8 ∧ Eqv (dropTo L p 8) (fdropTo R p 8) last (b + 1) := by
  obtain ⟨φ, hr⟩ := h.rel
  obtain ⟨h1, h2⟩ := drop_rel hr hp 8
  refine ⟨h2, ⟨φ, h1⟩, ?_, ?_, ?_, ?_⟩
  · have := cnt_dropTo hr.key p 8; have := h.c32; omega
  · have := length_dropTo L p 8; have := h.len; omega
  · have := h.lst; omega
  · intro e he
    exact h.rng e (drop_sub2 he)
end Go.Proofs.Ytcllofffbmbmlaa
