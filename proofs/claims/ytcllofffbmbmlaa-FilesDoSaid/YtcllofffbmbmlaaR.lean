/- files: the reference's rows beside the descriptors. Condition: no two of one place. -/
import Derived.Test.YtcllofffbmbmlaaQ
namespace Go.Proofs.Ytcllofffbmbmlaa
open Go.RowKit Go.Shelf

/-- A row of the reference: whose, which, of which open file, what it is of. -/
structure Fr where
  pid : Int
  fd : Int
  file : Int
  kind : Int
  thing : Int
deriving DecidableEq
def fat (R : List Fr) (p q : Int) : Option Fr := R.find? (fun r => r.pid = p ∧ r.fd = q)
def fdel (R : List Fr) (p q : Int) : List Fr := R.filter (fun r => ¬ (r.pid = p ∧ r.fd = q))
def frefs (R : List Fr) (n : Int) : Nat := (R.filter (·.file = n)).length
def fcnt (R : List Fr) (last : Nat) : Nat := ((List.range last).filter (fun i : Nat => decide (0 < frefs R ((i : Int) + 1)))).length
def cv (φ : Nat → Int) (e : Ent) : Fr := ⟨e.pid, e.fd, φ e.blk, e.kind, e.thing⟩
/-- The reference holds the same. -/
structure Rl (L : List Ent) (R : List Fr) (last : Nat) (φ : Nat → Int) : Prop where
  rng : ∀ e ∈ L, 1 ≤ φ e.blk ∧ φ e.blk ≤ last
  inj : ∀ a ∈ L, ∀ b ∈ L, φ a.blk = φ b.blk → a.blk = b.blk
  perm : R.Perm (L.map (cv φ))
  key : Keyd L
theorem fat_cv (L : List Ent) (φ : Nat → Int) (p q : Int) : fat (L.map (cv φ)) p q = (ent L p q).map (cv φ) := by
  unfold fat ent
  rw [List.find?_map]
  rfl
theorem find_perm {α : Type} {p : α → Bool} {l m : List α} (h : l.Perm m) (hu : ∀ a ∈ m, ∀ b ∈ m, p a = true → p b = true → a = b) : l.find? p = m.find? p := by
  cases h1 : l.find? p with
  | none =>
    rw [List.find?_eq_none] at h1
    symm
    rw [List.find?_eq_none]
    exact fun x hx => h1 x (h.mem_iff.2 hx)
  | some a =>
    have ha := List.find?_some h1
    have hm := h.mem_iff.1 (List.mem_of_find?_eq_some h1)
    cases h2 : m.find? p with
    | none =>
      rw [List.find?_eq_none] at h2
      exact absurd ha (h2 a hm)
    | some b =>
      rw [hu a hm b (List.mem_of_find?_eq_some h2) ha (List.find?_some h2)]
theorem keyd_eq {L : List Ent} (h : Keyd L) {a b : Ent} (ha : a ∈ L) (hb : b ∈ L) (e : a.pid = b.pid ∧ a.fd = b.fd) : a = b := by
  induction L with
  | nil => simp at ha
  | cons x l ih =>
    unfold Keyd at h
    rw [List.pairwise_cons] at h
    rcases List.mem_cons.1 ha with ha' | ha'
    · rcases List.mem_cons.1 hb with hb' | hb'
      · rw [ha', hb']
      · rw [ha'] at e
        exact absurd e (h.1 b hb')
    · rcases List.mem_cons.1 hb with hb' | hb'
      · rw [hb'] at e
        exact absurd ⟨e.1.symm, e.2.symm⟩ (h.1 a ha')
      · exact ih h.2 ha' hb'
theorem Rl.at {L : List Ent} {R : List Fr} {last : Nat} {φ : Nat → Int} (h : Rl L R last φ) (p q : Int) : fat R p q = (ent L p q).map (cv φ) := by
  rw [← fat_cv]
  refine find_perm h.perm (fun a ha b hb h1 h2 => ?_)
  obtain ⟨x, hx, rfl⟩ := List.mem_map.1 ha
  obtain ⟨y, hy, rfl⟩ := List.mem_map.1 hb
  have h1 := of_decide_eq_true h1
  have h2 := of_decide_eq_true h2
  simp only [cv] at h1 h2
  rw [keyd_eq h.key hx hy ⟨h1.1.trans h2.1.symm, by have := h1.2.trans h2.2.symm; omega⟩]
theorem Rl.nrefs {L : List Ent} {R : List Fr} {last : Nat} {φ : Nat → Int} (h : Rl L R last φ) {e : Ent} (he : e ∈ L) : frefs R (φ e.blk) = refs L e.blk := by
  unfold frefs refs
  rw [(h.perm.filter _).length_eq, List.filter_map, List.length_map]
  congr 1
  refine List.filter_congr (fun x hx => ?_)
  simp only [Function.comp, cv]
  by_cases hb : x.blk = e.blk
  · simp [hb]
  · have : ¬ φ x.blk = φ e.blk := fun hh => hb (h.inj x hx e he hh)
    simp [hb, this]
theorem fcnt_cons {R : List Fr} {r : Fr} {last : Nat} (h : 1 ≤ r.file ∧ r.file ≤ last) : fcnt (r :: R) last = fcnt R last + if frefs R r.file = 0 then 1 else 0 := by
  unfold fcnt
  have key : ∀ n : Int, frefs (r :: R) n = frefs R n + if r.file = n then 1 else 0 := by
    intro n
    unfold frefs
    rw [List.filter_cons]
    by_cases e : r.file = n <;> simp [e]
  have gen : ∀ m : Nat, ((List.range m).filter (fun i : Nat => decide (0 < frefs (r :: R) ((i : Int) + 1)))).length = ((List.range m).filter (fun i : Nat => decide (0 < frefs R ((i : Int) + 1)))).length + if r.file ≤ m ∧ frefs R r.file = 0 then 1 else 0 := by
    intro m
    induction m with
    | zero => simp; intro hh; omega
    | succ m ih =>
      rw [List.range_succ, List.filter_append, List.filter_append, List.length_append, List.length_append, ih]
      have hk := key ((m : Int) + 1)
      by_cases e : r.file = (m : Int) + 1
      · rw [if_pos e] at hk
        rw [if_neg (by omega)]
        have h1 : 0 < frefs (r :: R) ((m : Int) + 1) := by omega
        by_cases z : frefs R r.file = 0
        · have h2 : ¬ 0 < frefs R ((m : Int) + 1) := by rw [← e]; omega
          rw [if_pos ⟨by omega, z⟩]
          simp [h1, h2]
        · have h2 : 0 < frefs R ((m : Int) + 1) := by rw [← e]; omega
          rw [if_neg (fun hh => z hh.2)]
          simp [h1, h2]
      · rw [if_neg e, Nat.add_zero] at hk
        have hs : List.filter (fun i : Nat => decide (0 < frefs (r :: R) ((i : Int) + 1))) [m] = List.filter (fun i : Nat => decide (0 < frefs R ((i : Int) + 1))) [m] := List.filter_congr (fun i hi => by rw [List.mem_singleton.1 hi, hk])
        rw [hs]
        have : (r.file ≤ (m : Int) ∧ frefs R r.file = 0) ↔ (r.file ≤ ((m + 1 : Nat) : Int) ∧ frefs R r.file = 0) := by
          constructor
          · rintro ⟨h1, h2⟩; exact ⟨by omega, h2⟩
          · rintro ⟨h1, h2⟩; exact ⟨by omega, h2⟩
        simp only [this]
        omega
  rw [gen last]
  congr 1
  by_cases z : frefs R r.file = 0
  · rw [if_pos ⟨h.2, z⟩, if_pos z]
  · rw [if_neg (fun hh => z hh.2), if_neg z]
theorem frefs_perm {R S : List Fr} (h : R.Perm S) (n : Int) : frefs R n = frefs S n := (h.filter _).length_eq
theorem fcnt_perm {R S : List Fr} (h : R.Perm S) (last : Nat) : fcnt R last = fcnt S last := by
  unfold fcnt
  congr 2
  funext i
  rw [frefs_perm h]
theorem cnt_cv (φ : Nat → Int) (last : Nat) : ∀ (L : List Ent), (∀ e ∈ L, 1 ≤ φ e.blk ∧ φ e.blk ≤ last) → (∀ a ∈ L, ∀ b ∈ L, φ a.blk = φ b.blk → a.blk = b.blk) → fcnt (L.map (cv φ)) last = cnt L
  | [], _, _ => by
    unfold fcnt cnt frefs
    simp
  | e :: L, h1, h2 => by
    rw [List.map_cons, fcnt_cons (h1 e (List.mem_cons_self ..)), cnt, cnt_cv φ last L (fun x hx => h1 x (List.mem_cons_of_mem _ hx)) (fun a ha b hb => h2 a (List.mem_cons_of_mem _ ha) b (List.mem_cons_of_mem _ hb))]
    have : frefs (L.map (cv φ)) (cv φ e).file = refs L e.blk := by
      unfold frefs refs
      rw [List.filter_map, List.length_map]
      congr 1
      refine List.filter_congr (fun x hx => ?_)
      simp only [Function.comp, cv]
      by_cases hb : x.blk = e.blk
      · simp [hb]
      · have : ¬ φ x.blk = φ e.blk := fun hh => hb (h2 x (List.mem_cons_of_mem _ hx) e (List.mem_cons_self ..) hh)
        simp [hb, this]
    rw [this]
theorem Rl.ncnt {L : List Ent} {R : List Fr} {last : Nat} {φ : Nat → Int} (h : Rl L R last φ) : fcnt R last = cnt L := by
  rw [fcnt_perm h.perm, cnt_cv φ last L h.rng h.inj]
theorem Rl.nil : Rl [] [] 0 (fun _ => 0) := ⟨fun e h => by simp at h, fun a h => by simp at h, List.Perm.nil, List.Pairwise.nil⟩
theorem ent_key {L : List Ent} {x : Ent} (h : ent L x.pid x.fd = none) : ∀ y ∈ L, ¬ (x.pid = y.pid ∧ x.fd = y.fd) := by
  intro y hy e
  unfold ent at h
  rw [List.find?_eq_none] at h
  exact h y hy (by simp [e.1, e.2])
/-- A new file. -/
theorem Rl.anew {L : List Ent} {R : List Fr} {last : Nat} {φ : Nat → Int} (h : Rl L R last φ) {pid K T : Int} {k b : Nat} (hk : ent L pid k = none) (hb : ∀ e ∈ L, e.blk ≠ b) :
    Rl (⟨pid, k, b, K, T⟩ :: L) (R ++ [⟨pid, k, (last : Int) + 1, K, T⟩]) (last + 1) (fun n => if n = b then (last : Int) + 1 else φ n) := by
  have hφ : ∀ e ∈ L, (if e.blk = b then (last : Int) + 1 else φ e.blk) = φ e.blk := fun e he => if_neg (hb e he)
  refine ⟨fun e he => ?_, fun x hx y hy hxy => ?_, ?_, ?_⟩
  · rcases List.mem_cons.1 he with rfl | he
    · simp only [if_true]; omega
    · have := h.rng e he
      rw [hφ e he]; omega
  · rcases List.mem_cons.1 hx with rfl | hx <;> rcases List.mem_cons.1 hy with rfl | hy
    · rfl
    · rw [hφ y hy] at hxy
      simp only [if_true] at hxy
      have := h.rng y hy
      omega
    · rw [hφ x hx] at hxy
      simp only [if_true] at hxy
      have := h.rng x hx
      omega
    · rw [hφ x hx, hφ y hy] at hxy
      exact h.inj x hx y hy hxy
  · refine (List.perm_append_comm).trans ?_
    rw [List.map_cons]
    have e1 : cv (fun n => if n = b then (last : Int) + 1 else φ n) ⟨pid, k, b, K, T⟩ = ⟨pid, k, (last : Int) + 1, K, T⟩ := by simp [cv]
    rw [e1]
    refine List.Perm.cons _ (h.perm.trans (List.Perm.of_eq ?_))
    refine List.map_congr_left (fun e he => ?_)
    simp only [cv]
    rw [hφ e he]
  · unfold Keyd
    rw [List.pairwise_cons]
    exact ⟨fun y hy => ent_key (x := ⟨pid, k, b, K, T⟩) hk y hy, h.key⟩
/-- One more of a file that is there. -/
theorem Rl.more {L : List Ent} {R : List Fr} {last : Nat} {φ : Nat → Int} (h : Rl L R last φ) {e : Ent} (he : e ∈ L) {pid : Int} {k : Nat} (hk : ent L pid k = none) (K T : Int) :
    Rl (⟨pid, k, e.blk, K, T⟩ :: L) (R ++ [⟨pid, k, φ e.blk, K, T⟩]) last φ := by
  refine ⟨fun x hx => ?_, fun x hx y hy hxy => ?_, ?_, ?_⟩
  · rcases List.mem_cons.1 hx with rfl | hx
    · exact h.rng e he
    · exact h.rng x hx
  · rcases List.mem_cons.1 hx with rfl | hx <;> rcases List.mem_cons.1 hy with rfl | hy
    · rfl
    · exact h.inj e he y hy hxy
    · exact h.inj x hx e he hxy
    · exact h.inj x hx y hy hxy
  · exact (List.perm_append_comm).trans (List.Perm.cons _ h.perm)
  · unfold Keyd
    rw [List.pairwise_cons]
    exact ⟨fun y hy => ent_key (x := ⟨pid, k, e.blk, K, T⟩) hk y hy, h.key⟩
/-- One less. -/
theorem Rl.less {L : List Ent} {R : List Fr} {last : Nat} {φ : Nat → Int} (h : Rl L R last φ) (p q : Int) : Rl (del L p q) (fdel R p q) last φ := by
  refine ⟨fun x hx => h.rng x (List.mem_filter.1 hx).1, fun x hx y hy => h.inj x (List.mem_filter.1 hx).1 y (List.mem_filter.1 hy).1, ?_, h.key.filter _⟩
  unfold fdel del
  refine (h.perm.filter _).trans (List.Perm.of_eq ?_)
  rw [List.filter_map]
  rfl
/-- How many are left of a file that was there. -/
theorem Rl.left {L : List Ent} {R : List Fr} {last : Nat} {φ : Nat → Int} (h : Rl L R last φ) {e : Ent} (he : e ∈ L) (p q : Int) : frefs (fdel R p q) (φ e.blk) = refs (del L p q) e.blk := by
  have h2 := h.less p q
  unfold frefs refs
  rw [(h2.perm.filter _).length_eq, List.filter_map, List.length_map]
  congr 1
  refine List.filter_congr (fun x hx => ?_)
  simp only [Function.comp, cv]
  by_cases hb : x.blk = e.blk
  · simp [hb]
  · have : ¬ φ x.blk = φ e.blk := fun hh => hb (h.inj x (List.mem_filter.1 hx).1 e he hh)
    simp [hb, this]
theorem filter_ent {L : List Ent} (h : Keyd L) (p : Int) (n : Nat) : L.filter (fun e => decide (e.pid = p ∧ e.fd = n)) = (ent L p n).toList := by
  induction L with
  | nil => rfl
  | cons x l ih =>
    unfold Keyd at h
    rw [List.pairwise_cons] at h
    have ih := ih h.2
    rw [List.filter_cons]
    by_cases hx : x.pid = p ∧ x.fd = n
    · have h1 : ent (x :: l) p n = some x := by unfold ent; rw [List.find?_cons]; simp [hx.1, hx.2]
      have h2 : l.filter (fun e => decide (e.pid = p ∧ e.fd = n)) = [] := by
        rw [List.filter_eq_nil_iff]
        intro y hy hy2
        have hy2 := of_decide_eq_true hy2
        exact h.1 y hy ⟨hx.1.trans hy2.1.symm, hx.2.trans hy2.2.symm⟩
      rw [h1, h2]
      simp [hx.1, hx.2]
    · have h1 : ent (x :: l) p n = ent l p n := by
        unfold ent
        rw [List.find?_cons]
        have : (decide (x.pid = p ∧ (x.fd : Int) = n)) = false := by
          rw [decide_eq_false_iff_not]
          rintro ⟨a, b⟩
          exact hx ⟨a, by omega⟩
        rw [this]
      rw [h1, ← ih]
      simp [hx]
def toChild (child : Int) (e : Ent) : Ent := ⟨child, e.fd, e.blk, e.kind, e.thing⟩
theorem fork_perm {L : List Ent} (h : Keyd L) (pid child : Int) : ∀ n : Nat, (forkTo L pid child n).Perm ((L.filter (fun e => decide (e.pid = pid ∧ e.fd < n))).map (toChild child) ++ L)
  | 0 => by
    have : L.filter (fun e => decide (e.pid = pid ∧ e.fd < 0)) = [] := by
      rw [List.filter_eq_nil_iff]
      intro x _ hx
      have := of_decide_eq_true hx
      omega
    rw [this]
    exact List.Perm.refl _
  | n + 1 => by
    have ih := fork_perm h pid child n
    have hsplit : (L.filter (fun e => decide (e.pid = pid ∧ e.fd < n + 1))).Perm (L.filter (fun e => decide (e.pid = pid ∧ e.fd = n)) ++ L.filter (fun e => decide (e.pid = pid ∧ e.fd < n))) := by
      clear ih h
      induction L with
      | nil => exact List.Perm.nil
      | cons x l ih =>
        rw [List.filter_cons, List.filter_cons, List.filter_cons]
        by_cases h1 : x.pid = pid ∧ x.fd = n
        · have h2 : x.pid = pid ∧ x.fd < n + 1 := ⟨h1.1, by omega⟩
          have h3 : ¬ (x.pid = pid ∧ x.fd < n) := by omega
          simp only [decide_eq_true h1, decide_eq_true h2, decide_eq_false h3, if_true, if_false, Bool.false_eq_true]
          exact List.Perm.cons _ ih
        · by_cases h3 : x.pid = pid ∧ x.fd < n
          · have h2 : x.pid = pid ∧ x.fd < n + 1 := ⟨h3.1, by omega⟩
            simp only [decide_eq_true h2, decide_eq_true h3, decide_eq_false h1, if_true, if_false, Bool.false_eq_true]
            exact (List.Perm.cons _ ih).trans List.perm_middle.symm
          · have h2 : ¬ (x.pid = pid ∧ x.fd < n + 1) := by omega
            simp only [decide_eq_false h1, decide_eq_false h2, decide_eq_false h3, if_false, Bool.false_eq_true]
            exact ih
    have hs2 := (hsplit.map (toChild child)).append_right L
    rw [filter_ent h] at hs2
    unfold forkTo
    cases hx : ent L pid n with
    | none =>
      rw [hx] at hs2
      exact ih.trans hs2.symm
    | some e =>
      rw [hx] at hs2
      have he := (ent_some hx).2
      have : toChild child e = ⟨child, n, e.blk, e.kind, e.thing⟩ := by unfold toChild; congr 1; omega
      refine (List.Perm.cons _ ih).trans ?_
      rw [← this]
      exact hs2.symm
def ffork (R : List Fr) (pid child : Int) : List Fr := R ++ (R.filter (fun r => decide (r.pid = pid))).map (fun r => ⟨child, r.fd, r.file, r.kind, r.thing⟩)
theorem Rl.fork {L : List Ent} {R : List Fr} {last : Nat} {φ : Nat → Int} (h : Rl L R last φ) (hf : ∀ e ∈ L, e.fd < 8) (pid child : Int) (hk : Keyd (forkTo L pid child 8)) : Rl (forkTo L pid child 8) (ffork R pid child) last φ := by
  have hp := fork_perm h.key pid child 8
  have hm : ∀ e ∈ forkTo L pid child 8, ∃ x ∈ L, e.blk = x.blk := by
    intro e he
    rcases List.mem_append.1 (hp.mem_iff.1 he) with he | he
    · obtain ⟨x, hx, rfl⟩ := List.mem_map.1 he
      exact ⟨x, (List.mem_filter.1 hx).1, rfl⟩
    · exact ⟨e, he, rfl⟩
  refine ⟨fun e he => ?_, fun a ha b hb hab => ?_, ?_, hk⟩
  · obtain ⟨x, hx, e1⟩ := hm e he
    rw [e1]; exact h.rng x hx
  · obtain ⟨x, hx, e1⟩ := hm a ha
    obtain ⟨y, hy, e2⟩ := hm b hb
    rw [e1, e2] at hab ⊢
    exact h.inj x hx y hy hab
  · refine List.Perm.trans ?_ (hp.map (cv φ)).symm
    rw [List.map_append]
    unfold ffork
    refine List.perm_append_comm.trans (List.Perm.append ?_ h.perm)
    have e1 : L.filter (fun e => decide (e.pid = pid ∧ e.fd < 8)) = L.filter (fun e => decide (e.pid = pid)) := List.filter_congr (fun e he => by
      have := hf e he
      by_cases hh : e.pid = pid
      · rw [decide_eq_true (⟨hh, this⟩ : e.pid = pid ∧ e.fd < 8), decide_eq_true hh]
      · rw [decide_eq_false (fun x => hh x.1), decide_eq_false hh])
    rw [e1]
    refine ((h.perm.filter _).map _).trans (List.Perm.of_eq ?_)
    rw [List.filter_map, List.map_map, List.map_map]
    rfl
end Go.Proofs.Ytcllofffbmbmlaa
