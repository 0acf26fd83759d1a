/- proc: each function, as one word says what it does; ProcNone's walk. Conditions: the table's form. -/
import Derived.Test.YtaeabeofpkfadaaU
import Derived.Test.YtaeabeofpkfadaaV
namespace Go.Proofs.Ytaeabeofpkfadaa
open Go.RowKit Go.Shelf
attribute [local go_sem] Oper.semAt_some

/-- A table that keeps its rules. -/
structure TabI (w : World) (t m : Nat) (L : List Pr) (last : Int) : Prop where
  tab : TabAt w t m L last
  inv : Inv L last
theorem TabI.ne {w : World} {t m : Nat} {L : List Pr} {last : Int} (h : TabI w t m L last) : L ≠ [] := by
  obtain ⟨q, hq, _⟩ := h.inv.one
  exact List.ne_nil_of_mem hq
def forkE (L : List Pr) (last pid : Int) : Int := match rn L pid with
  | (none, e) => e
  | (some _, _) => if L.length = 16 ∨ last = 30000 then 61 else 0
def forkN (L : List Pr) (last pid : Int) : Int := match forkP L last pid with | some _ => last + 1 | none => 0
def forkT (L : List Pr) (last pid : Int) : Int := match forkP L last pid with | some _ => last + 1 | none => last
def forkL (L : List Pr) (last pid : Int) (b : Nat) : List Pr := match forkP L last pid with | some p => L ++ [kid last pid p b] | none => L
theorem fork_any {w : World} {t m : Nat} {L : List Pr} {last : Int} (h : TabI w t m L last) (pid : Int) :
    Calls Try.prog 13 #[.pointer (some ⟨t, 0, none⟩), .int .i64 pid] w fun e w' => ∃ b, e = .returned (.tuple #[.int .i64 (forkN L last pid), .int .i64 (forkE L last pid)]) ∧ w.heap.size ≤ b ∧ TabAt w' t m (forkL L last pid b) (forkT L last pid) ∧ Same (Own t m L) w w' := by
  have hi := h.inv
  unfold forkN forkE forkL forkT forkP
  cases hr : rn L pid with
  | mk o er =>
    cases o with
    | none => exact (fork_bad h.tab pid hr).mono fun e w' ⟨h1, h2⟩ => ⟨w.heap.size, h1, Nat.le_refl _, h.tab.same0 h2, h2.mono (fun _ _ h => h.elim)⟩
    | some p =>
      by_cases hf : L.length = 16 ∨ last = 30000
      · simp only [hf, if_true]
        exact (fork_full h.tab pid hr hf).mono fun e w' ⟨h1, h2⟩ => ⟨w.heap.size, h1, Nat.le_refl _, h.tab.same0 h2, h2.mono (fun _ _ h => h.elim)⟩
      · simp only [hf, if_false]
        exact (fork_ok h.tab pid hr (by omega) (by omega) ⟨hi.l1, hi.l2⟩ hi.le).mono fun e w' ⟨b, h1, h2, h3, h4⟩ => ⟨b, h1, h2, h3, h4.mono (fun k _ e => by rcases e with e | e; exact .inl e; exact .inr (.inl e))⟩
theorem own_b {t m : Nat} {L : List Pr} {p p' : Pr} (hp : p ∈ L) (e : p'.b = p.b) {k : Nat} (h : k = p'.b) : Own t m L k := .inr (.inr ⟨p, hp, by rw [h, e]⟩)
theorem become_any {w : World} {t m : Nat} {L : List Pr} {last : Int} (h : TabI w t m L last) (pid u g : Int) :
    Calls Try.prog 19 #[.pointer (some ⟨t, 0, none⟩), .int .i64 pid, .agg #[.int .i64 u, .int .i64 g]] w fun e w' => e = .returned (.int .i64 (becE L pid u g).1) ∧ TabAt w' t m (putO L (becE L pid u g).2) last ∧ Same (Own t m L) w w' := by
  cases hr : becE L pid u g with
  | mk er o =>
    cases o with
    | none => exact (become_bad h.tab pid u g hr).mono fun e w' ⟨h1, h2⟩ => ⟨h1, h.tab.same0 h2, h2.mono (fun _ _ h => h.elim)⟩
    | some p' =>
      obtain ⟨rfl, p, hg, he⟩ := becE_put hr
      exact (become_ok h.tab pid u g hr).mono fun e w' ⟨h1, h2, h3⟩ => ⟨h1, h2, h3.mono (fun k _ e => own_b (lget_some hg).1 (by rw [he]) e)⟩
def exE (L : List Pr) (pid s : Int) : Int := match rn L pid with
  | (none, e) => e
  | (some _, _) => if s < 0 ∨ 255 < s ∨ pid = 1 then 2 else 0
def exL (L : List Pr) (pid s : Int) : List Pr := match exP L pid s with | some p => (put L p).map (adopt pid) | none => L
theorem exit_any {w : World} {t m : Nat} {L : List Pr} {last : Int} (h : TabI w t m L last) (pid s : Int) :
    Calls Try.prog 15 #[.pointer (some ⟨t, 0, none⟩), .int .i64 pid, .int .i64 s] w fun e w' => e = .returned (.int .i64 (exE L pid s)) ∧ TabAt w' t m (exL L pid s) last ∧ Same (Own t m L) w w' := by
  unfold exE exL exP
  cases hr : rn L pid with
  | mk o er =>
    cases o with
    | none => exact (exit_bad h.tab pid s hr).mono fun e w' ⟨h1, h2⟩ => ⟨h1, h.tab.same0 h2, h2.mono (fun _ _ h => h.elim)⟩
    | some p =>
      by_cases hf : s < 0 ∨ 255 < s ∨ pid = 1
      · simp only [hf, if_true]
        exact (exit_arg h.tab pid s hr hf).mono fun e w' ⟨h1, h2⟩ => ⟨h1, h.tab.same0 h2, h2.mono (fun _ _ h => h.elim)⟩
      · simp only [hf, if_false]
        exact (exit_ok h.tab h.inv.bd pid s hr (by omega) (by omega) (by omega)).mono fun e w' ⟨h1, h2, h3⟩ => ⟨h1, h2, h3⟩
def wtE (L : List Pr) (pid : Int) : Int := match rn L pid with
  | (none, e) => e
  | (some _, _) => match L.find? (zom pid) with | some _ => 0 | none => wr L pid L.length
def wtN (L : List Pr) (pid : Int) : Int := match wtZ L pid with | some z => z.pid | none => 0
def wtS (L : List Pr) (pid : Int) : Int := match wtZ L pid with | some z => z.stat | none => 0
def wtL (L : List Pr) (pid : Int) : List Pr := match wtZ L pid with | some z => L.filter (fun q => q.pid ≠ z.pid) | none => L
theorem wait_u {w : World} {t m : Nat} {L : List Pr} {last : Int} (h : TabI w t m L last) (pid : Int) :
    Calls Try.prog 16 #[.pointer (some ⟨t, 0, none⟩), .int .i64 pid] w fun e w' => e = .returned (.tuple #[.int .i64 (wtN L pid), .int .i64 (wtS L pid), .int .i64 (wtE L pid)]) ∧ TabAt w' t m (wtL L pid) last ∧ Same (Own t m L) w w' := by
  unfold wtE wtN wtS wtL wtZ
  cases hr : rn L pid with
  | mk o er =>
    cases o with
    | none => exact (wait_bad h.tab pid hr).mono fun e w' ⟨h1, h2⟩ => ⟨h1, h.tab.same0 h2, h2.mono (fun _ _ h => h.elim)⟩
    | some p =>
      refine (wait_any h.tab h.inv.bd pid hr).mono ?_
      rintro e w' (⟨h1, h2, h3⟩ | ⟨z, h1, h2, h3, h4⟩)
      · simp only [h1]
        exact ⟨h2, h.tab.same0 h3, h3.mono (fun _ _ h => h.elim)⟩
      · simp only [h1]
        exact ⟨h2, h3, h4.mono (fun k _ e => .inr (.inl e))⟩
theorem kill_any {w : World} {t m : Nat} {L : List Pr} {last : Int} (h : TabI w t m L last) (pid : Int) :
    Calls Try.prog 20 #[.pointer (some ⟨t, 0, none⟩), .int .i64 pid] w fun e w' => e = .returned (.int .i64 (kl L pid).1) ∧ TabAt w' t m (putO L (kl L pid).2) last ∧ Same (Own t m L) w w' := by
  cases hr : kl L pid with
  | mk er o =>
    cases o with
    | none => exact (kill_bad h.tab pid hr).mono fun e w' ⟨h1, h2⟩ => ⟨h1, h2 ▸ h.tab, h2 ▸ Same.refl _ _⟩
    | some p' =>
      obtain ⟨rfl, p, hg, _, he⟩ := kl_put hr
      exact (kill_ok h.tab pid hr).mono fun e w' ⟨h1, h2, h3⟩ => ⟨h1, h2, h3.mono (fun k _ e => own_b (lget_some hg).1 (by rw [he]; show (if p.st = 2 then up p else p).b = p.b; split <;> rfl) e)⟩
def slE (L : List Pr) (pid : Int) : Int := (rn L pid).2
theorem sleep_any {w : World} {t m : Nat} {L : List Pr} {last : Int} (h : TabI w t m L last) (pid : Int) (c : ByteArray) :
    Calls Try.prog 21 #[.pointer (some ⟨t, 0, none⟩), .int .i64 pid, .string c] w fun e w' => e = .returned (.int .i64 (slE L pid)) ∧ TabAt w' t m (putO L (slP L pid c)) last ∧ Same (Own t m L) w w' := by
  unfold slE slP
  cases hr : rn L pid with
  | mk o er =>
    cases o with
    | none => exact (sleep_bad h.tab pid c hr).mono fun e w' ⟨h1, h2⟩ => ⟨h1, h.tab.same0 h2, h2.mono (fun _ _ h => h.elim)⟩
    | some p =>
      obtain ⟨hg, _, rfl⟩ := rn_some hr
      exact (sleep_ok h.tab pid c hr).mono fun e w' ⟨h1, h2, h3⟩ => ⟨h1, h2, h3.mono (fun k _ e => own_b (lget_some hg).1 rfl e)⟩
end Go.Proofs.Ytaeabeofpkfadaa
