/- proc: one process is another; Sleep, rouse, Kill. Conditions: the table's form. -/
import Derived.Test.YtaeabeofpkfadaaF
namespace Go.Proofs.Ytaeabeofpkfadaa
open Go.RowKit Go.Shelf
attribute [local go_sem] Oper.semAt_some

theorem TabAt.uniq {w : World} {t m : Nat} {L : List Pr} {last : Int} (h : TabAt w t m L last) {p q : Pr} (hp : p ∈ L) (hq : q ∈ L) (e : p.pid = q.pid ∨ p.b = q.b) : p = q := by
  have key : ∀ (L : List Pr), L.Pairwise (fun a b => a.pid < b.pid) → L.Pairwise (fun a b => a.b ≠ b.b) → p ∈ L → q ∈ L → p = q := by
    intro L
    induction L with
    | nil => intro _ _ h; simp at h
    | cons a L ih =>
      intro h1 h2 hp hq
      rw [List.pairwise_cons] at h1 h2
      rcases List.mem_cons.1 hp with rfl | hp' <;> rcases List.mem_cons.1 hq with rfl | hq'
      · rfl
      · have := h1.1 q hq'; have := h2.1 q hq'; exfalso; rcases e with e | e
        · omega
        · contradiction
      · have := h1.1 p hp'; have := h2.1 p hp'; exfalso; rcases e with e | e
        · omega
        · exact this e.symm
      · exact ih h1.2 h2.2 hp' hq'
  exact key L h.asc h.bi hp hq
/-- A process is another one. -/
def put (L : List Pr) (p' : Pr) : List Pr := L.map fun q => if q.pid = p'.pid then p' else q
theorem put_mem {L : List Pr} {p' q : Pr} (h : q ∈ put L p') : q = p' ∨ (q ∈ L ∧ q.pid ≠ p'.pid) := by
  obtain ⟨x, hx, rfl⟩ := List.mem_map.1 h
  by_cases e : x.pid = p'.pid
  · rw [if_pos e]; exact .inl rfl
  · rw [if_neg e]; exact .inr ⟨hx, e⟩
theorem put_length (L : List Pr) (p' : Pr) : (put L p').length = L.length := by simp [put]
theorem put_pids (L : List Pr) (p' : Pr) : (put L p').map (·.pid) = L.map (·.pid) := by
  unfold put
  rw [List.map_map]
  apply List.map_congr_left
  intro q _
  simp only [Function.comp]
  split
  · rename_i h; exact h.symm
  · rfl
theorem TabAt.put {w w' : World} {t m : Nat} {L : List Pr} {last : Int} (h : TabAt w t m L last) {p p' : Pr} (hp : p ∈ L) (hid : p'.pid = p.pid) (hbb : p'.b = p.b) (hs : Same (· = p.b) w w') (hp' : PrAt w' p') : TabAt w' t m (put L p') last := by
  have hnb := h.nb p hp
  have hb : ∀ q ∈ L, (if q.pid = p'.pid then p' else q).b = q.b := by
    intro q hq
    split
    · rename_i e
      rw [h.uniq hq hp (.inl (e.trans hid)), hbb]
    · rfl
  have hal : alOf (Ytaeabeofpkfadaa.put L p') = alOf L := by
    unfold alOf Ytaeabeofpkfadaa.put
    rw [List.map_map]
    apply List.map_congr_left
    intro q hq
    simp only [Function.comp]
    rw [hb q hq]
    split
    · rename_i e; rw [e]
    · rfl
  refine ⟨hs.cell h.t0 (fun e => hnb.1 e.symm), hs.cell h.t1 (fun e => hnb.1 e.symm), hs.unfrozen h.t1 h.tz (fun e => hnb.1 e.symm), ?_, ?_, ?_, ?_, ?_, h.tm⟩
  · rw [hal]; exact h.hm.same hs (fun e => hnb.2 e.symm)
  · intro q hq
    rcases put_mem hq with rfl | ⟨hq, hne⟩
    · exact hp'
    · refine (h.pr q hq).same hs (fun e => hne ?_)
      rw [h.uniq hq hp (.inr e), hid]
  · have := (List.pairwise_map (f := Pr.pid) (R := fun a b : Int => a < b)).2 h.asc
    exact (List.pairwise_map (f := Pr.pid) (R := fun a b : Int => a < b)).1 (by rw [show List.map Pr.pid _ = _ from put_pids L p']; exact this)
  · have hmb : (Ytaeabeofpkfadaa.put L p').map (·.b) = L.map (·.b) := by
      unfold Ytaeabeofpkfadaa.put
      rw [List.map_map]
      exact List.map_congr_left fun q hq => hb q hq
    have := (List.pairwise_map (f := Pr.b) (R := fun a b : Nat => a ≠ b)).2 h.bi
    exact (List.pairwise_map (f := Pr.b) (R := fun a b : Nat => a ≠ b)).1 (by rw [show List.map Pr.b _ = _ from hmb]; exact this)
  · intro q hq
    rcases put_mem hq with rfl | ⟨hq, _⟩
    · rw [hbb]; exact hnb
    · exact h.nb q hq
theorem PrAt.set {w : World} {p p' : Pr} (h : PrAt w p) (hb : p'.b = p.b) {i : Nat} {v : Value} (hi : i < 8) (hv : p'.vals = p.vals.set i v) : PrAt (w.setCell ⟨p.b, i, none⟩ v) p' := by
  intro j u hu
  rw [hv, List.getElem?_set] at hu
  rw [hb]
  have hl : p.vals.length = 8 := rfl
  by_cases e : i = j
  · subst e
    rw [if_pos rfl, if_pos (by omega)] at hu
    obtain rfl := Option.some.inj hu
    obtain ⟨x, hx⟩ : ∃ x, p.vals[i]? = some x := ⟨_, List.getElem?_eq_getElem (by omega)⟩
    have := h i x hx
    exact ⟨World.cell?_setCell_same _ _ _ this.1, by simpa using this.2⟩
  · rw [if_neg e] at hu
    have := h j u hu
    refine ⟨?_, by simpa using this.2⟩
    rw [World.cell?_setCell_other _ _ _ _ (by intro e2; cases e2; exact e rfl)]
    exact this.1

theorem sleep_nil (w : World) (pid : Int) (c : ByteArray) : Calls Try.prog 21 #[.pointer none, .int .i64 pid, .string c] w fun e w' => e = .returned (.int .i64 1) ∧ w' = w := by
  go_enter Try.func21, Try.ntmps21
  go_wp2_with fail
  refine (running_nil _ pid).mono ?_
  rintro e w1 ⟨rfl, rfl⟩
  go_wp2
  go_ret
  exact ⟨rfl, rfl⟩
theorem sleep_bad {w : World} {t m : Nat} {L : List Pr} {last : Int} (h : TabAt w t m L last) (pid : Int) (c : ByteArray) {er : Int} (hr : rn L pid = (none, er)) :
    Calls Try.prog 21 #[.pointer (some ⟨t, 0, none⟩), .int .i64 pid, .string c] w fun e w' => e = .returned (.int .i64 er) ∧ Same (fun _ => False) w w' := by
  have hra := running_any h pid
  rw [hr] at hra
  simp only [pv] at hra
  have he : (er == 0) = false := by rcases rn_none hr with rfl | rfl <;> rfl
  clear h hr
  go_enter Try.func21, Try.ntmps21
  go_wp2_with fail
  refine hra.mono ?_
  rintro e w1 ⟨rfl, hs1⟩
  go_wp2
  go_ret
  exact ⟨rfl, hs1⟩
set_option maxHeartbeats 1600000 in
theorem sleep_ok {w : World} {t m : Nat} {L : List Pr} {last : Int} (h : TabAt w t m L last) (pid : Int) (c : ByteArray) {p : Pr} {er : Int} (hr : rn L pid = (some p, er)) :
    Calls Try.prog 21 #[.pointer (some ⟨t, 0, none⟩), .int .i64 pid, .string c] w fun e w' => e = .returned (.int .i64 0) ∧ TabAt w' t m (put L { p with st := 2, ch := c }) last ∧ Same (· = p.b) w w' := by
  have hra := running_any h pid
  rw [hr] at hra
  obtain ⟨hg, hst, rfl⟩ := rn_some hr
  simp only [pv] at hra
  have hpm := (lget_some hg).1
  have H := Lib.hid h
  clear h hr
  go_enter Try.func21, Try.ntmps21
  go_wp2_with fail
  refine hra.mono ?_
  rintro e w1 ⟨rfl, hs1⟩
  have h1 := H.out.same0 hs1
  have hp := h1.pr p hpm
  have c2 := hp 2 _ rfl
  have c5 := hp 5 _ rfl
  have H1 := Lib.hid h1
  have HP := Lib.hid hp
  obtain ⟨c2, z2⟩ := c2
  obtain ⟨c5, z5⟩ := c5
  clear h1 hp hra
  go_wp2
  go_ret
  have q1 : PrAt (w1.setCell ⟨p.b, 2, none⟩ (.int .i64 2)) { p with st := 2 } := HP.out.set (p' := { p with st := 2 }) (i := 2) (v := .int .i64 2) rfl (by omega) rfl
  have q2 : PrAt ((w1.setCell ⟨p.b, 2, none⟩ (.int .i64 2)).setCell ⟨p.b, 5, none⟩ (.string c)) { p with st := 2, ch := c } := PrAt.set (p := { p with st := 2 }) (p' := { p with st := 2, ch := c }) (i := 5) (v := .string c) q1 rfl (by omega) rfl
  have sS : Same (· = p.b) w1 ((w1.setCell ⟨p.b, 2, none⟩ (.int .i64 2)).setCell ⟨p.b, 5, none⟩ (.string c)) := ((Same.refl (· = p.b) _).setCell _ (.inr rfl)).setCell _ (.inr rfl)
  exact ⟨rfl, H1.out.put hpm rfl rfl sS q2, (hs1.mono (T := (· = p.b)) (fun _ _ h => h.elim)).trans sS⟩

/-- 'rouse', and the function that it makes. -/
theorem rouse_any (w : World) (b : Nat) : Calls Try.prog 40 #[.pointer (some ⟨b, 0, none⟩)] w fun e w' => e = .returned (.func (.func 49) #[] #[.pointer (some ⟨w.heap.size, 0, none⟩)]) ∧ w' = w.alloc (.cells #[.pointer (some ⟨b, 0, none⟩)] 60) := by
  go_enter Try.func40, Try.ntmps40
  go_wp2
  go_ret
  exact ⟨rfl, rfl⟩
def up (p : Pr) : Pr := { p with st := 1, ch := ⟨#[]⟩ }
set_option maxHeartbeats 1600000 in
theorem roused {w : World} {p : Pr} (h : PrAt w p) (x : Nat) (hx : w.cell? ⟨x, 0, none⟩ = some (.pointer (some ⟨p.b, 0, none⟩))) (hne : x ≠ p.b) :
    Calls Try.prog 49 #[.pointer (some ⟨x, 0, none⟩)] w fun e w' => e = .returned (.tuple #[]) ∧ PrAt w' (up p) ∧ Same (· = p.b) w w' := by
  obtain ⟨c2, z2⟩ := h 2 _ rfl
  obtain ⟨c5, z5⟩ := h 5 _ rfl
  have H := Lib.hid h
  have hb := h.lt
  clear h
  have sA : Same (· = p.b) w (w.setCell ⟨p.b, 2, none⟩ (.int .i64 1)) := (Same.refl (· = p.b) _).setCell _ (.inr rfl)
  have sB : Same (· = p.b) w (w.setCell ⟨p.b, 5, none⟩ (.string ⟨#[]⟩)) := (Same.refl (· = p.b) _).setCell _ (.inr rfl)
  have x1 := sA.cell hx hne
  have x2 := sB.cell hx hne
  clear sA sB
  go_enter Try.func49, Try.ntmps49
  go_wp2
  go_region
  all_goals go_wp2
  go_end0
  have q1 : PrAt (w.setCell ⟨p.b, 2, none⟩ (.int .i64 1)) { p with st := 1 } := H.out.set (p' := { p with st := 1 }) (i := 2) (v := .int .i64 1) rfl (by omega) rfl
  have q2 : PrAt ((w.setCell ⟨p.b, 2, none⟩ (.int .i64 1)).setCell ⟨p.b, 5, none⟩ (.string ⟨#[]⟩)) (up p) := PrAt.set (p := { p with st := 1 }) (p' := up p) (i := 5) (v := .string ⟨#[]⟩) q1 rfl (by omega) rfl
  exact ⟨rfl, q2, (((Same.refl (· = p.b) _).setCell _ (.inr rfl)).setCell _ (.inr rfl)).drew⟩

theorem kill_nil (w : World) (pid : Int) : Calls Try.prog 20 #[.pointer none, .int .i64 pid] w fun e w' => e = .returned (.int .i64 1) ∧ w' = w := by
  go_enter Try.func20, Try.ntmps20
  go_wp2_with fail
  refine (find_nil _ pid).mono ?_
  rintro e w1 ⟨rfl, rfl⟩
  go_wp2
  go_ret
  exact ⟨rfl, rfl⟩
def kl (L : List Pr) (pid : Int) : Int × Option Pr := match lget L pid with
  | none => (60, none)
  | some p => if pid = 1 then (2, none) else if p.st = 3 then (60, none) else (0, some { (if p.st = 2 then up p else p) with kil := true })
theorem kill_bad {w : World} {t m : Nat} {L : List Pr} {last : Int} (h : TabAt w t m L last) (pid : Int) {er : Int} (hr : kl L pid = (er, none)) :
    Calls Try.prog 20 #[.pointer (some ⟨t, 0, none⟩), .int .i64 pid] w fun e w' => e = .returned (.int .i64 er) ∧ w' = w := by
  have hfa := find_any h pid
  unfold kl at hr
  cases hg : lget L pid with
  | none =>
    rw [hg] at hr hfa
    simp only [pv, fe, Prod.mk.injEq, and_true] at hfa hr
    subst hr
    clear h hg
    go_enter Try.func20, Try.ntmps20
    go_wp2_with fail
    refine hfa.mono ?_
    rintro e w1 ⟨rfl, rfl⟩
    go_wp2
    go_ret
    exact ⟨rfl, rfl⟩
  | some p =>
    rw [hg] at hr hfa
    have hp := h.pr p (lget_some hg).1
    have c2 := (hp 2 _ rfl).1
    simp only [pv, fe] at hfa hr
    clear h hg hp
    by_cases h1 : pid = 1
    · rw [if_pos h1] at hr
      simp only [Prod.mk.injEq, and_true] at hr
      subst hr
      subst h1
      go_enter Try.func20, Try.ntmps20
      go_wp2_with fail
      refine hfa.mono ?_
      rintro e w1 ⟨rfl, rfl⟩
      go_wp2
      go_ret
      exact ⟨rfl, rfl⟩
    · rw [if_neg h1] at hr
      have hb : (pid == 1) = false := by simpa using h1
      by_cases h3 : p.st = 3
      · rw [if_pos h3] at hr
        simp only [Prod.mk.injEq, and_true] at hr
        subst hr
        rw [h3] at c2
        go_enter Try.func20, Try.ntmps20
        go_wp2_with fail
        refine hfa.mono ?_
        rintro e w1 ⟨rfl, rfl⟩
        go_wp2
        go_ret
        exact ⟨rfl, rfl⟩
      · rw [if_neg h3] at hr
        simp at hr
set_option maxHeartbeats 1600000 in
theorem kill_ok {w : World} {t m : Nat} {L : List Pr} {last : Int} (h : TabAt w t m L last) (pid : Int) {er : Int} {p' : Pr} (hr : kl L pid = (er, some p')) :
    Calls Try.prog 20 #[.pointer (some ⟨t, 0, none⟩), .int .i64 pid] w fun e w' => e = .returned (.int .i64 0) ∧ TabAt w' t m (put L p') last ∧ Same (· = p'.b) w w' := by
  have hfa := find_any h pid
  unfold kl at hr
  cases hg : lget L pid with
  | none => rw [hg] at hr; simp at hr
  | some p =>
    rw [hg] at hr hfa
    have hpm := (lget_some hg).1
    have hp := h.pr p hpm
    simp only [pv, fe] at hfa hr
    by_cases h1 : pid = 1
    · rw [if_pos h1] at hr; simp at hr
    rw [if_neg h1] at hr
    by_cases h3 : p.st = 3
    · rw [if_pos h3] at hr; simp at hr
    rw [if_neg h3] at hr
    simp only [Prod.mk.injEq, Option.some.injEq] at hr
    obtain ⟨-, rfl⟩ := hr
    have hb1 : (pid == 1) = false := by simpa using h1
    have hb3 : (p.st == 3) = false := by simpa using h3
    have H := Lib.hid h
    have HP := Lib.hid hp
    have c2 := (hp 2 _ rfl).1
    by_cases h2 : p.st = 2
    · rw [if_pos h2]
      rw [h2] at c2
      have hlt := hp.lt
      have hrs := roused (hp.same (same_alloc (.cells #[.pointer (some ⟨p.b, 0, none⟩)] 60)) (fun h => h)) w.heap.size (by simp) (by omega)
      have HRS := Lib.hid hrs
      clear h hp hg hrs hb3
      go_enter Try.func20, Try.ntmps20
      go_wp2_with fail
      refine hfa.mono ?_
      rintro e w1 ⟨rfl, rfl⟩
      go_wp2_with fail
      refine (rouse_any _ p.b).mono ?_
      rintro e w2 ⟨rfl, rfl⟩
      go_wp2_with fail
      refine HRS.out.mono ?_
      rintro e w3 ⟨rfl, hp3, hs3⟩
      have c7 : w3.cell? ⟨p.b, 7, none⟩ = some (.bool p.kil) := (hp3 7 _ rfl).1
      have z7 : w3.frozen? ⟨p.b, 7, none⟩ = false := (hp3 7 _ rfl).2
      have HP3 := Lib.hid hp3
      clear hp3
      go_wp2
      go_ret
      have q1 : PrAt (w3.setCell ⟨p.b, 7, none⟩ (.bool true)) { up p with kil := true } := PrAt.set (p := up p) (p' := { up p with kil := true }) (i := 7) (v := .bool true) HP3.out rfl (by omega) rfl
      have sS : Same (· = p.b) w1 (w3.setCell ⟨p.b, 7, none⟩ (.bool true)) := (((same_alloc _).mono (T := (· = p.b)) (fun _ _ h => h.elim)).trans hs3).setCell _ (.inr rfl)
      exact ⟨rfl, H.out.put hpm rfl rfl sS q1, sS⟩
    · rw [if_neg h2]
      have hb2 : (p.st == 2) = false := by simpa using h2
      obtain ⟨c7, z7⟩ := hp 7 _ rfl
      obtain ⟨p', hp'⟩ : ∃ p' : Pr, p' = { p with kil := true } := ⟨_, rfl⟩
      have fin : Calls Try.prog 20 #[.pointer (some ⟨t, 0, none⟩), .int .i64 pid] w fun e w' => e = .returned (.int .i64 0) ∧ w' = w.setCell ⟨p.b, 7, none⟩ (.bool true) := by
        clear h hp hg
        go_enter Try.func20, Try.ntmps20
        go_wp2_with fail
        refine hfa.mono ?_
        rintro e w1 ⟨rfl, rfl⟩
        go_wp2
        go_ret
        exact ⟨rfl, rfl⟩
      refine fin.mono ?_
      rintro e w1 ⟨rfl, rfl⟩
      have q1 : PrAt (w.setCell ⟨p.b, 7, none⟩ (.bool true)) { p with kil := true } := HP.out.set (p' := { p with kil := true }) (i := 7) (v := .bool true) rfl (by omega) rfl
      have sS : Same (· = p.b) w (w.setCell ⟨p.b, 7, none⟩ (.bool true)) := (Same.refl (· = p.b) _).setCell _ (.inr rfl)
      exact ⟨rfl, H.out.put hpm rfl rfl sS q1, sS⟩
end Go.Proofs.Ytaeabeofpkfadaa
