/- proc: the reference's New, user, Right, Kill, Sleep, Become. Conditions: its form. -/
import Derived.Test.YtaeabeofpkfadaaRf
import Derived.StillTailTactics
namespace Go.Proofs.Ytaeabeofpkfadaa
open Go.RowKit Go.Shelf
attribute [local go_sem] Oper.semAt_some

theorem put_set {L : List Pr} {last : Int} (h : Inv L last) {i : Nat} {p p' : Pr} (hp : L[i]? = some p) (e : p'.pid = p.pid) : L.set i p' = put L p' := by
  have hasc := h.asc
  unfold put
  apply List.ext_getElem?
  intro j
  rw [List.getElem?_set, List.getElem?_map]
  have hi := (List.getElem?_eq_some_iff.1 hp).1
  by_cases hij : i = j
  · subst hij
    rw [if_pos rfl, if_pos hi, hp, Option.map_some, if_pos e.symm]
  · rw [if_neg hij]
    cases hq : L[j]? with
    | none => rfl
    | some q =>
      rw [Option.map_some, if_neg]
      intro e2
      have := h.uniq (List.mem_of_getElem? hq) (List.mem_of_getElem? hp) (e2.trans e)
      subst this
      obtain ⟨hj, hj2⟩ := List.getElem?_eq_some_iff.1 hq
      obtain ⟨hi, hi2⟩ := List.getElem?_eq_some_iff.1 hp
      have hh := List.pairwise_iff_getElem.1 hasc
      rcases Nat.lt_or_gt_of_ne hij with h | h
      · have := hh i j hi hj h; rw [hj2, hi2] at this; omega
      · have := hh j i hj hi h; rw [hj2, hi2] at this; omega
/-- Which states there are; who runs waits on no channel. -/
def St (L : List Pr) : Prop := ∀ q ∈ L, (q.st = 1 ∧ q.ch = ⟨#[]⟩) ∨ q.st = 2 ∨ q.st = 3
theorem St.put1 {L : List Pr} (h : St L) {p' : Pr} (hp : (p'.st = 1 ∧ p'.ch = ⟨#[]⟩) ∨ p'.st = 2 ∨ p'.st = 3) : St (Ytaeabeofpkfadaa.put L p') := fun q hq => by
  rcases put_mem hq with rfl | ⟨hq, _⟩
  · exact hp
  · exact h q hq
theorem St.act {L : List Pr} {last : Int} (h : St L) (x : Do) (b : Nat) : St (actL L last x b) := by
  have hfork : St (match forkP L last x.pid with | some p => L ++ [kid last x.pid p b] | none => L) := by
    cases hf : forkP L last x.pid with
    | none => exact h
    | some p =>
      intro q hq
      rcases List.mem_append.1 hq with hq | hq
      · exact h q hq
      · obtain rfl := List.mem_singleton.1 hq; exact .inl ⟨rfl, rfl⟩
  unfold actL
  generalize (x.d % 8).toNat = k
  match k with
  | 0 => exact hfork
  | 1 => exact hfork
  | 2 =>
    show St (putO L (becE L x.pid x.uid x.gid).2)
    cases hb : becE L x.pid x.uid x.gid with
    | mk e o =>
      cases o with
      | none => exact h
      | some p' =>
        obtain ⟨_, p, hg, rfl⟩ := becE_put hb
        exact h.put1 (h p (lget_some hg).1)
  | 3 =>
    show St (match exP L x.pid x.stat with | some p => (put L p).map (adopt x.pid) | none => L)
    cases hb : exP L x.pid x.stat with
    | none => exact h
    | some p' =>
      obtain ⟨p, h1, -, -, -, rfl⟩ := exP_put hb
      intro q hq
      obtain ⟨y, hy, rfl⟩ := List.mem_map.1 hq
      have := (h.put1 (p' := { p with st := 3, stat := x.stat }) (.inr (.inr rfl))) y hy
      unfold adopt
      split <;> exact this
  | 4 =>
    show St (match wtZ L x.pid with | some z => L.filter (fun q => q.pid ≠ z.pid) | none => L)
    cases hb : wtZ L x.pid with
    | none => exact h
    | some z => exact fun q hq => h q (List.mem_filter.1 hq).1
  | 5 =>
    show St (putO L (kl L x.pid).2)
    cases hb : kl L x.pid with
    | mk e o =>
      cases o with
      | none => exact h
      | some p' =>
        obtain ⟨_, p, hg, h3, rfl⟩ := kl_put hb
        refine h.put1 ?_
        show ((if p.st = 2 then up p else p).st = 1 ∧ (if p.st = 2 then up p else p).ch = ⟨#[]⟩) ∨ (if p.st = 2 then up p else p).st = 2 ∨ (if p.st = 2 then up p else p).st = 3
        split
        · exact .inl ⟨rfl, rfl⟩
        · exact h p (lget_some hg).1
  | 6 =>
    show St (putO L (slP L x.pid x.ch))
    cases hb : slP L x.pid x.ch with
    | none => exact h
    | some p' =>
      obtain ⟨p, hr, rfl⟩ := slP_put hb
      exact h.put1 (.inr (.inl rfl))
  | _ + 7 =>
    show St (L.map (wk x.ch))
    intro q hq
    obtain ⟨y, hy, rfl⟩ := List.mem_map.1 hq
    unfold wk
    split
    · exact .inl ⟨rfl, rfl⟩
    · exact h y hy
theorem rnew_any (w : World) : Calls Try.prog 17 #[] w fun e w' => ∃ r g cap, e = .returned (.pointer (some ⟨r, 0, none⟩)) ∧ RAt w.heap.size w' r g cap [one 0] 1 ∧ w.heap.size ≤ r ∧ w.heap.size ≤ g ∧ Same (fun _ => False) w w' := by
  go_enter Try.func17, Try.ntmps17
  go_wp2
  go_ret
  refine ⟨w.heap.size + 1, w.heap.size, 1, rfl, ⟨by simp [go_sem], by simp [go_sem], by simp [go_sem], by simp [go_sem], ?_, by omega, by simp⟩, by omega, Nat.le_refl _, (same_alloc _).alloc _⟩
  refine ownsRow_same (S := fun _ => False) ?_ (same_alloc _) (fun _ _ h => h)
  exact World.ownsRow_lit w _ 1 (Nat.le_refl _) (by unfold maxLen; omega) rfl
theorem user_any (w : World) (n : Int) : Calls Try.prog 54 #[.int .i64 n] w fun e w' => e = .returned (.bool (okU n)) ∧ w' = w := by
  unfold okU
  by_cases h : 0 ≤ n
  · rw [show decide (0 ≤ n) = true by simpa using h, Bool.true_and]
    go_enter Try.func54, Try.ntmps54
    go_wp2
    go_ret
    exact ⟨rfl, rfl⟩
  · have hd : decide (0 ≤ n) = false := by simpa using h
    rw [hd, Bool.false_and]
    go_enter Try.func54, Try.ntmps54
    go_wp2
    go_ret
    exact ⟨rfl, rfl⟩
theorem rright_any (w : World) (u g : Int) : Calls Try.prog 47 #[.agg #[.int .i64 u, .int .i64 g]] w fun e w' => e = .returned (.bool (okU u && okU g)) ∧ Same (fun _ => False) w w' := by
  have hsA : Same (fun _ => False) w (w.alloc (.cells #[.int .i64 u, .int .i64 g] 32)) := same_alloc _
  have h1 := user_any (w.alloc (.cells #[.int .i64 u, .int .i64 g] 32)) u
  have h2 := user_any (w.alloc (.cells #[.int .i64 u, .int .i64 g] 32)) g
  cases hu : okU u
  · rw [hu] at h1
    go_enter Try.func47, Try.ntmps47
    go_wp2_with fail
    refine h1.mono ?_
    rintro e w1 ⟨rfl, rfl⟩
    go_wp2
    go_ret
    exact ⟨rfl, hsA⟩
  · rw [hu] at h1
    rw [Bool.true_and]
    generalize okU g = b at h2
    go_enter Try.func47, Try.ntmps47
    go_wp2_with fail
    refine h1.mono ?_
    rintro e w1 ⟨rfl, rfl⟩
    go_wp2_with fail
    refine h2.mono ?_
    rintro e w1 ⟨rfl, rfl⟩
    go_wp2
    go_ret
    exact ⟨rfl, hsA⟩
/-- What an operation on the reference leaves. -/
def RQ (s : Nat) (w : World) (r g : Nat) (L : List Pr) (last : Int) (w' : World) : Prop := ∃ g' cap', RAt s w' r g' cap' L last ∧ (g' = g ∨ w.heap.size ≤ g') ∧ Same (fun k => k = r ∨ k = g) w w'
theorem RAt.rq {s : Nat} {w : World} {r g cap : Nat} {L : List Pr} {last : Int} (h : RAt s w r g cap L last) {w' : World} (hs : Same (fun _ => False) w w') : RQ s w r g L last w' := ⟨g, cap, h.same0 hs, .inl rfl, hs.mono (fun _ _ h => h.elim)⟩
set_option maxHeartbeats 1600000 in
theorem rkill_any {s : Nat} {w : World} {r g cap : Nat} {L : List Pr} {last : Int} (h : RAt s w r g cap L last) (hi : Inv L last) (hst : St L) (pid : Int) :
    Calls Try.prog 35 #[.pointer (some ⟨r, 0, none⟩), .int .i64 pid] w fun e w' => e = .returned (.int .i64 (kl L pid).1) ∧ RQ s w r g (putO L (kl L pid).2) last w' := by
  have ha := at_any h pid
  have hrq := h.rq (Same.refl _ w)
  unfold kl
  rcases at_cases L pid with ⟨h1, h2⟩ | ⟨k, p, h1, hp, h2⟩
  · rw [h2] at ha
    rw [h1]
    simp only [putO]
    clear h h1 h2
    go_enter Try.func35, Try.ntmps35
    go_wp2_with fail
    refine ha.mono ?_
    rintro e w1 ⟨rfl, rfl⟩
    go_wp2
    go_ret
    exact ⟨rfl, hrq⟩
  · rw [h2] at ha
    rw [h1]
    have hk0 : ¬ (k : Int) < 0 := by omega
    by_cases e1 : pid = 1
    · simp only [e1, if_true, putO]
      subst e1
      clear h h1 h2 hp
      go_enter Try.func35, Try.ntmps35
      go_wp2_with fail
      refine ha.mono ?_
      rintro e w1 ⟨rfl, rfl⟩
      go_wp2
      go_ret
      exact ⟨rfl, hrq⟩
    · simp only [e1, if_false]
      have hx1 : (pid == 1) = false := by simpa using e1
      have hl := h.len
      have hkl := (List.getElem?_eq_some_iff.1 hp).1
      have hc0 := h.c0
      obtain ⟨c2, z2⟩ := h.at_ hp (j := 2) rfl
      by_cases e3 : p.st = 3
      · simp only [e3, if_true, putO]
        rw [e3] at c2
        clear h h1 h2 hp
        obtain ⟨n, hn⟩ : ∃ n, n = L.length := ⟨_, rfl⟩
        rw [← hn] at hc0 hkl hl
        have hkn : (k : Int) < n := by omega
        go_enter Try.func35, Try.ntmps35
        go_wp2_with fail
        refine ha.mono ?_
        rintro e w1 ⟨rfl, rfl⟩
        go_wp2
        go_ret
        exact ⟨rfl, hrq⟩
      · simp only [e3, if_false, putO]
        have hx3 : (p.st == 3) = false := by simpa using e3
        obtain ⟨c4, z4⟩ := h.at_ hp (j := 5) rfl
        obtain ⟨c6, z6⟩ := h.at_ hp (j := 7) rfl
        have H := Lib.hid h
        have HP := Lib.hid hp
        have HGR := Lib.hid h.gr
        have hgr := h.gr
        have hrg : ¬ r = g := fun e => hgr e.symm
        clear h h1 h2 hp
        obtain ⟨n, hn⟩ : ∃ n, n = L.length := ⟨_, rfl⟩
        have HN := Lib.hid hn
        rw [← hn] at hc0 hkl hl
        have hkn : (k : Int) < n := by omega
        obtain ⟨pz, hpz⟩ : ∃ pz : Pr, pz = { (if p.st = 2 then up p else p) with kil := true } := ⟨_, rfl⟩
        rw [← hpz]
        have HPZ := Lib.hid hpz
        clear hn hrq hpz
        go_enter Try.func35, Try.ntmps35
        go_wp2_with fail
        refine ha.mono ?_
        rintro e w1 ⟨rfl, rfl⟩
        go_wp2
        go_ret
        have q1 := H.out.store (p' := { p with kil := true }) HP.out (j := 7) (v := .bool true) (by omega) rfl
        have hkL : k < L.length := (List.getElem?_eq_some_iff.1 HP.out).1
        have q2 := q1.store (i := k) (p := { p with kil := true }) (p' := { p with kil := true, st := 1 }) (List.getElem?_set_self hkL) (j := 2) (v := .int .i64 1) (by omega) rfl
        have q3 := q2.store (i := k) (p := { p with kil := true, st := 1 }) (p' := { p with kil := true, st := 1, ch := ⟨#[]⟩ }) (List.getElem?_set_self (by rw [List.length_set]; exact hkL)) (j := 5) (v := .string ⟨#[]⟩) (by omega) rfl
        rw [List.set_set, List.set_set, put_set hi HP.out (p' := { p with kil := true, st := 1, ch := ⟨#[]⟩ }) rfl] at q3
        have he : pz = { p with kil := true, st := 1, ch := ⟨#[]⟩ } := by
          rw [HPZ.out]
          rcases hst p (List.mem_of_getElem? HP.out) with ⟨s1, s2⟩ | s1 | s1
          · rw [if_neg (by omega)]
            cases p; simp only at s1 s2; subst s1; subst s2; rfl
          · rw [if_pos s1]; rfl
          · exact absurd s1 e3
        refine ⟨rfl, ?_⟩
        rw [he]
        exact ⟨g, cap, q3, .inl rfl, (((Same.refl (fun k => k = r ∨ k = g) _).setCell _ (.inr (.inr rfl))).setCell _ (.inr (.inr rfl))).setCell _ (.inr (.inr rfl))⟩
set_option maxHeartbeats 1600000 in
theorem rsleep_any {s : Nat} {w : World} {r g cap : Nat} {L : List Pr} {last : Int} (h : RAt s w r g cap L last) (hi : Inv L last) (pid : Int) (c : ByteArray) :
    Calls Try.prog 36 #[.pointer (some ⟨r, 0, none⟩), .int .i64 pid, .string c] w fun e w' => e = .returned (.int .i64 (slE L pid)) ∧ RQ s w r g (putO L (slP L pid c)) last w' := by
  have ha := at_any h pid
  have hrq := h.rq (Same.refl _ w)
  unfold slE slP rn
  rcases at_cases L pid with ⟨h1, h2⟩ | ⟨k, p, h1, hp, h2⟩
  · rw [h2] at ha
    rw [h1]
    simp only [putO]
    clear h h1 h2
    go_enter Try.func36, Try.ntmps36
    go_wp2_with fail
    refine ha.mono ?_
    rintro e w1 ⟨rfl, rfl⟩
    go_wp2
    go_ret
    exact ⟨rfl, hrq⟩
  · rw [h2] at ha
    rw [h1]
    have hk0 : ¬ (k : Int) < 0 := by omega
    have hl := h.len
    have hkl := (List.getElem?_eq_some_iff.1 hp).1
    have hc0 := h.c0
    obtain ⟨c2, z2⟩ := h.at_ hp (j := 2) rfl
    by_cases e1 : p.st = 1
    · simp only [e1, if_true, putO]
      rw [e1] at c2
      obtain ⟨c4, z4⟩ := h.at_ hp (j := 5) rfl
      have H := Lib.hid h
      have HP := Lib.hid hp
      have hgr := h.gr
      have hrg : ¬ r = g := fun e => hgr e.symm
      clear h h1 h2 hp
      obtain ⟨n, hn⟩ : ∃ n, n = L.length := ⟨_, rfl⟩
      rw [← hn] at hc0 hkl hl
      have hkn : (k : Int) < n := by omega
      clear hn hrq
      go_enter Try.func36, Try.ntmps36
      go_wp2_with fail
      refine ha.mono ?_
      rintro e w1 ⟨rfl, rfl⟩
      go_wp2
      go_ret
      have q1 := H.out.store (p' := { p with st := 2 }) HP.out (j := 2) (v := .int .i64 2) (by omega) rfl
      have hkL : k < L.length := (List.getElem?_eq_some_iff.1 HP.out).1
      have q2 := q1.store (i := k) (p := { p with st := 2 }) (p' := { p with st := 2, ch := c }) (List.getElem?_set_self hkL) (j := 5) (v := .string c) (by omega) rfl
      rw [List.set_set, put_set hi HP.out (p' := { p with st := 2, ch := c }) rfl] at q2
      exact ⟨rfl, g, cap, q2, .inl rfl, ((Same.refl (fun k => k = r ∨ k = g) _).setCell _ (.inr (.inr rfl))).setCell _ (.inr (.inr rfl))⟩
    · have hx1 : (p.st == 1) = false := by simpa using e1
      simp only [e1, if_false, putO]
      clear h h1 h2 hp
      obtain ⟨n, hn⟩ : ∃ n, n = L.length := ⟨_, rfl⟩
      rw [← hn] at hc0 hkl hl
      have hkn : (k : Int) < n := by omega
      clear hn
      go_enter Try.func36, Try.ntmps36
      go_wp2_with fail
      refine ha.mono ?_
      rintro e w1 ⟨rfl, rfl⟩
      go_wp2
      go_ret
      exact ⟨rfl, hrq⟩
end Go.Proofs.Ytaeabeofpkfadaa
