/- proc: what acts do, in plain words. No condition. -/
import Derived.Test.YtaeabeofpkfadaaR
namespace Go.Proofs.Ytaeabeofpkfadaa
/-- An act. -/
structure Do where
  d : Int
  pid : Int
  stat : Int
  uid : Int
  gid : Int
  ch : ByteArray
/-- Fork: of whom, if it is not refused. -/
def forkP (L : List Pr) (last pid : Int) : Option Pr := match rn L pid with
  | (some p, _) => if L.length = 16 ∨ last = 30000 then none else some p
  | (none, _) => none
/-- Become. -/
def becE (L : List Pr) (pid u g : Int) : Int × Option Pr := match lget L pid with
  | none => (60, none)
  | some p => if u < 0 ∨ 65535 < u ∨ g < 0 ∨ 65535 < g then (50, none) else if p.uid ≠ 0 ∧ (p.uid ≠ u ∨ p.gid ≠ g) then (51, none) else (0, some { p with uid := u, gid := g })
/-- Exit. -/
def exP (L : List Pr) (pid stat : Int) : Option Pr := match rn L pid with
  | (some p, _) => if stat < 0 ∨ 255 < stat ∨ pid = 1 then none else some { p with st := 3, stat := stat }
  | (none, _) => none
/-- Wait: the zombie. -/
def wtZ (L : List Pr) (pid : Int) : Option Pr := match rn L pid with
  | (some _, _) => L.find? (zom pid)
  | (none, _) => none
def slP (L : List Pr) (pid : Int) (c : ByteArray) : Option Pr := match rn L pid with
  | (some p, _) => some { p with st := 2, ch := c }
  | (none, _) => none
/-- Wake, of one. -/
def isW (c : ByteArray) (p : Pr) : Bool := decide (p.st = 2) && decide (p.ch = c)
def wk (c : ByteArray) (p : Pr) : Pr := if isW c p then up p else p
theorem wk_id (c : ByteArray) (q : Pr) : (wk c q).pid = q.pid ∧ (wk c q).b = q.b := by unfold wk up; split <;> exact ⟨rfl, rfl⟩
def putO (L : List Pr) : Option Pr → List Pr
  | some p => put L p
  | none => L
/-- Behind an act: the processes, the last number. -/
def actL (L : List Pr) (last : Int) (x : Do) (b : Nat) : List Pr := match (x.d % 8).toNat with
  | 0 | 1 => match forkP L last x.pid with
    | some p => L ++ [kid last x.pid p b]
    | none => L
  | 2 => putO L (becE L x.pid x.uid x.gid).2
  | 3 => match exP L x.pid x.stat with
    | some p => (put L p).map (adopt x.pid)
    | none => L
  | 4 => match wtZ L x.pid with
    | some z => L.filter (fun q => q.pid ≠ z.pid)
    | none => L
  | 5 => putO L (kl L x.pid).2
  | 6 => putO L (slP L x.pid x.ch)
  | _ => L.map (wk x.ch)
def actN (L : List Pr) (last : Int) (x : Do) : Int := match (x.d % 8).toNat with
  | 0 | 1 => match forkP L last x.pid with
    | some _ => last + 1
    | none => 0
  | _ => 0
def actLast (L : List Pr) (last : Int) (x : Do) : Int := match (x.d % 8).toNat with
  | 0 | 1 => match forkP L last x.pid with
    | some _ => last + 1
    | none => last
  | _ => last
/-- What holds of all processes. -/
structure Inv (L : List Pr) (last : Int) : Prop where
  len : L.length ≤ 16
  pos : ∀ q ∈ L, 1 ≤ q.pid
  l1 : 1 ≤ last
  l2 : last ≤ 30000
  le : ∀ q ∈ L, q.pid ≤ last
  asc : L.Pairwise (fun a b => a.pid < b.pid)
  one : ∃ q ∈ L, q.pid = 1 ∧ q.par = 0 ∧ q.st ≠ 3
  par : ∀ q ∈ L, q.pid ≠ 1 → ∃ r ∈ L, r.pid = q.par ∧ r.st ≠ 3
theorem Inv.bd {L : List Pr} {last : Int} (h : Inv L last) : Bd L := ⟨by have := h.len; omega, fun q hq => ⟨h.pos q hq, by have := h.le q hq; have := h.l2; omega⟩⟩
theorem Inv.uniq {L : List Pr} {last : Int} (h : Inv L last) {p q : Pr} (hp : p ∈ L) (hq : q ∈ L) (e : p.pid = q.pid) : p = q := by
  have key : ∀ (L : List Pr), L.Pairwise (fun a b => a.pid < b.pid) → p ∈ L → q ∈ L → p = q := by
    intro L
    induction L with
    | nil => intro _ h; simp at h
    | cons a L ih =>
      intro h1 hp hq
      rw [List.pairwise_cons] at h1
      rcases List.mem_cons.1 hp with rfl | hp' <;> rcases List.mem_cons.1 hq with rfl | hq'
      · rfl
      · have := h1.1 q hq'; omega
      · have := h1.1 p hp'; omega
      · exact ih h1.2 hp' hq'
  exact key L h.asc hp hq
theorem Inv.get {L : List Pr} {last : Int} (h : Inv L last) {p : Pr} (hp : p ∈ L) : lget L p.pid = some p := by
  cases hg : lget L p.pid with
  | none =>
    have := List.find?_eq_none.1 hg p hp
    simp at this
  | some q =>
    obtain ⟨q1, q2⟩ := lget_some hg
    rw [h.uniq q1 hp q2]
theorem Inv.zero (b : Nat) : Inv [Go.Proofs.Ytaeabeofpkfadaa.one b] 1 := ⟨by simp, fun q hq => by obtain rfl := List.mem_singleton.1 hq; exact Int.le_refl _, Int.le_refl _, by omega, fun q hq => by obtain rfl := List.mem_singleton.1 hq; exact Int.le_refl _, List.pairwise_singleton _ _,
  ⟨Go.Proofs.Ytaeabeofpkfadaa.one b, List.mem_singleton.2 rfl, rfl, rfl, by show (1 : Int) ≠ 3; decide⟩, fun q hq hn => by obtain rfl := List.mem_singleton.1 hq; exact absurd rfl hn⟩
/-- Each process is another one, of the same number and parent; no zombie is new. -/
theorem Inv.mapped {L : List Pr} {last : Int} (h : Inv L last) (f : Pr → Pr) (h1 : ∀ q ∈ L, (f q).pid = q.pid) (h2 : ∀ q ∈ L, (f q).par = q.par) (h3 : ∀ q ∈ L, (f q).st = 3 → q.st = 3) : Inv (L.map f) last := by
  refine ⟨by rw [List.length_map]; exact h.len, ?_, h.l1, h.l2, ?_, ?_, ?_, ?_⟩
  · intro q hq
    obtain ⟨x, hx, rfl⟩ := List.mem_map.1 hq
    rw [h1 x hx]; exact h.pos x hx
  · intro q hq
    obtain ⟨x, hx, rfl⟩ := List.mem_map.1 hq
    rw [h1 x hx]; exact h.le x hx
  · rw [List.pairwise_map]
    exact h.asc.imp_of_mem (fun {a b} ha hb hh => by rw [h1 a ha, h1 b hb]; exact hh)
  · obtain ⟨q, hq, e1, e2, e3⟩ := h.one
    exact ⟨f q, List.mem_map.2 ⟨q, hq, rfl⟩, by rw [h1 q hq, e1], by rw [h2 q hq, e2], fun e => e3 (h3 q hq e)⟩
  · intro q hq hn
    obtain ⟨x, hx, rfl⟩ := List.mem_map.1 hq
    rw [h1 x hx] at hn
    obtain ⟨r, hr, e1, e2⟩ := h.par x hx hn
    exact ⟨f r, List.mem_map.2 ⟨r, hr, rfl⟩, by rw [h1 r hr, e1, h2 x hx], fun e => e2 (h3 r hr e)⟩
theorem Inv.put1 {L : List Pr} {last : Int} (h : Inv L last) {p p' : Pr} (hp : p ∈ L) (h1 : p'.pid = p.pid) (h2 : p'.par = p.par) (h3 : p'.st = 3 → p.st = 3) : Inv (put L p') last := by
  refine h.mapped _ (fun q hq => ?_) (fun q hq => ?_) (fun q hq => ?_)
  · split
    · rename_i e; exact e.symm
    · rfl
  · split
    · rename_i e; rw [h.uniq hq hp (e.trans h1), h2]
    · rfl
  · split
    · rename_i e; rw [h.uniq hq hp (e.trans h1)]; exact h3
    · exact id
theorem becE_put {L : List Pr} {pid u g : Int} {p' : Pr} {e : Int} (hr : becE L pid u g = (e, some p')) : e = 0 ∧ ∃ p, lget L pid = some p ∧ p' = { p with uid := u, gid := g } := by
  unfold becE at hr
  split at hr
  · simp at hr
  · rename_i p hg
    split at hr
    · simp at hr
    · split at hr
      · simp at hr
      · simp only [Prod.mk.injEq, Option.some.injEq] at hr
        exact ⟨hr.1.symm, p, hg, hr.2.symm⟩
theorem kl_put {L : List Pr} {pid : Int} {p' : Pr} {e : Int} (hr : kl L pid = (e, some p')) : e = 0 ∧ ∃ p, lget L pid = some p ∧ p.st ≠ 3 ∧ p' = { (if p.st = 2 then up p else p) with kil := true } := by
  unfold kl at hr
  split at hr
  · simp at hr
  · rename_i p hg
    split at hr
    · simp at hr
    · split at hr
      · simp at hr
      · rename_i h3
        simp only [Prod.mk.injEq, Option.some.injEq] at hr
        exact ⟨hr.1.symm, p, hg, h3, hr.2.symm⟩
theorem slP_put {L : List Pr} {pid : Int} {c : ByteArray} {p' : Pr} (hr : slP L pid c = some p') : ∃ p, rn L pid = (some p, 0) ∧ p' = { p with st := 2, ch := c } := by
  unfold slP at hr
  split at hr
  · rename_i p e h
    obtain ⟨_, _, rfl⟩ := rn_some h
    exact ⟨p, h, (Option.some.inj hr).symm⟩
  · cases hr
theorem exP_put {L : List Pr} {pid s : Int} {p' : Pr} (hr : exP L pid s = some p') : ∃ p, rn L pid = (some p, 0) ∧ 0 ≤ s ∧ s ≤ 255 ∧ pid ≠ 1 ∧ p' = { p with st := 3, stat := s } := by
  unfold exP at hr
  split at hr
  · rename_i p e h
    obtain ⟨_, _, rfl⟩ := rn_some h
    split at hr
    · cases hr
    · exact ⟨p, h, by omega, by omega, by omega, (Option.some.inj hr).symm⟩
  · cases hr
theorem wtZ_some {L : List Pr} {pid : Int} {z : Pr} (hr : wtZ L pid = some z) : ∃ p, rn L pid = (some p, 0) ∧ L.find? (zom pid) = some z ∧ z ∈ L ∧ z.par = pid ∧ z.st = 3 := by
  unfold wtZ at hr
  split at hr
  · rename_i p e h
    obtain ⟨_, _, rfl⟩ := rn_some h
    have := List.find?_some hr
    simp only [zom, Bool.and_eq_true, decide_eq_true_eq] at this
    exact ⟨p, h, hr, List.mem_of_find?_eq_some hr, this.1, this.2⟩
  · cases hr
theorem forkP_some {L : List Pr} {last pid : Int} {p : Pr} (hr : forkP L last pid = some p) : rn L pid = (some p, 0) ∧ L.length ≠ 16 ∧ last ≠ 30000 := by
  unfold forkP at hr
  split at hr
  · rename_i q e h
    obtain ⟨_, _, rfl⟩ := rn_some h
    split at hr
    · cases hr
    · obtain rfl := Option.some.inj hr
      exact ⟨h, by omega, by omega⟩
  · cases hr
theorem Inv.fork {L : List Pr} {last pid : Int} (h : Inv L last) {p : Pr} (hr : forkP L last pid = some p) (b : Nat) : Inv (L ++ [kid last pid p b]) (last + 1) := by
  obtain ⟨h1, h2, h3⟩ := forkP_some hr
  obtain ⟨h4, h5, _⟩ := rn_some h1
  obtain ⟨h6, h7⟩ := lget_some h4
  have a1 := h.len
  have a2 := h.l1
  have a3 := h.l2
  refine ⟨by rw [List.length_append, List.length_singleton]; omega, ?_, by omega, by omega, ?_, ?_, ?_, ?_⟩
  · intro q hq
    rcases List.mem_append.1 hq with hq | hq
    · exact h.pos q hq
    · obtain rfl := List.mem_singleton.1 hq; show 1 ≤ last + 1; omega
  · intro q hq
    rcases List.mem_append.1 hq with hq | hq
    · have := h.le q hq; omega
    · obtain rfl := List.mem_singleton.1 hq; exact Int.le_refl _
  · rw [List.pairwise_append]
    exact ⟨h.asc, List.pairwise_singleton _ _, fun a ha b hb => by obtain rfl := List.mem_singleton.1 hb; have := h.le a ha; show a.pid < last + 1; omega⟩
  · obtain ⟨q, hq, e⟩ := h.one
    exact ⟨q, List.mem_append_left _ hq, e⟩
  · intro q hq hn
    rcases List.mem_append.1 hq with hq | hq
    · obtain ⟨r, hr, e⟩ := h.par q hq hn
      exact ⟨r, List.mem_append_left _ hr, e⟩
    · obtain rfl := List.mem_singleton.1 hq
      exact ⟨p, List.mem_append_left _ h6, h7, by omega⟩
theorem Inv.exit {L : List Pr} {last pid s : Int} (h : Inv L last) {p' : Pr} (hr : exP L pid s = some p') : Inv ((put L p').map (adopt pid)) last := by
  obtain ⟨p, h1, -, -, hp1, rfl⟩ := exP_put hr
  obtain ⟨h4, h5, _⟩ := rn_some h1
  obtain ⟨h6, h7⟩ := lget_some h4
  have a1 := h.len
  obtain ⟨o, ho, o1, o2, o3⟩ := h.one
  have hop : o.pid ≠ p.pid := by omega
  have hpid : ∀ q, q ∈ (put L { p with st := 3, stat := s }).map (adopt pid) → ∃ x ∈ L, q.pid = x.pid := by
    intro q hq
    obtain ⟨y, hy, rfl⟩ := List.mem_map.1 hq
    rw [(adopt_id pid y).1]
    rcases put_mem hy with rfl | ⟨hy, _⟩
    · exact ⟨p, h6, rfl⟩
    · exact ⟨y, hy, rfl⟩
  have ho' : o ∈ put L { p with st := 3, stat := s } := List.mem_map.2 ⟨o, ho, if_neg hop⟩
  have hoa : adopt pid o = o := by
    unfold adopt
    rw [if_neg]
    have := h.pos p h6
    omega
  have ho2 : o ∈ (put L { p with st := 3, stat := s }).map (adopt pid) := List.mem_map.2 ⟨o, ho', hoa⟩
  refine ⟨by rw [List.length_map, put_length]; exact h.len, ?_, h.l1, h.l2, ?_, ?_, ⟨o, ho2, o1, o2, o3⟩, ?_⟩
  · intro q hq
    obtain ⟨x, hx, e⟩ := hpid q hq
    rw [e]; exact h.pos x hx
  · intro q hq
    obtain ⟨x, hx, e⟩ := hpid q hq
    rw [e]; exact h.le x hx
  · have := (List.pairwise_map (f := Pr.pid) (R := fun a b : Int => a < b)).2 h.asc
    refine (List.pairwise_map (f := Pr.pid) (R := fun a b : Int => a < b)).1 ?_
    rw [List.map_map, show (Pr.pid ∘ adopt pid) = Pr.pid from funext fun q => (adopt_id pid q).1, show List.map Pr.pid (Ytaeabeofpkfadaa.put L _) = _ from put_pids L _]
    exact this
  · intro q hq hn
    obtain ⟨y, hy, rfl⟩ := List.mem_map.1 hq
    rw [(adopt_id pid y).1] at hn
    by_cases e : y.par = pid
    · exact ⟨o, ho2, by unfold adopt; rw [if_pos e]; exact o1, o3⟩
    · have ea : adopt pid y = y := by unfold adopt; rw [if_neg e]
      rw [ea]
      have hx : ∃ x ∈ L, x.pid = y.pid ∧ x.par = y.par := by
        rcases put_mem hy with rfl | ⟨hy, _⟩
        · exact ⟨p, h6, rfl, rfl⟩
        · exact ⟨y, hy, rfl, rfl⟩
      obtain ⟨x, hx, x1, x2⟩ := hx
      obtain ⟨r, hr, r1, r2⟩ := h.par x hx (by omega)
      have hrp : r.pid ≠ p.pid := by omega
      have hr' : r ∈ put L { p with st := 3, stat := s } := List.mem_map.2 ⟨r, hr, if_neg hrp⟩
      exact ⟨adopt pid r, List.mem_map.2 ⟨r, hr', rfl⟩, by rw [(adopt_id pid r).1]; omega, by unfold adopt; split <;> exact r2⟩
theorem Inv.wait {L : List Pr} {last pid : Int} (h : Inv L last) {z : Pr} (hr : wtZ L pid = some z) : Inv (L.filter (fun q => q.pid ≠ z.pid)) last := by
  obtain ⟨p, h1, -, hz, z1, z2⟩ := wtZ_some hr
  have hk : ∀ r ∈ L, r.st ≠ 3 → r ∈ L.filter (fun q => q.pid ≠ z.pid) := by
    intro r hr h3
    refine List.mem_filter.2 ⟨hr, ?_⟩
    simp only [ne_eq, decide_not, Bool.not_eq_true', decide_eq_false_iff_not]
    intro e
    rw [h.uniq hr hz e] at h3
    exact h3 z2
  obtain ⟨o, ho, o1, o2, o3⟩ := h.one
  refine ⟨Nat.le_trans (List.length_filter_le _ _) h.len, fun q hq => h.pos q (List.mem_filter.1 hq).1, h.l1, h.l2, fun q hq => h.le q (List.mem_filter.1 hq).1, h.asc.filter _, ⟨o, hk o ho o3, o1, o2, o3⟩, ?_⟩
  intro q hq hn
  obtain ⟨r, hr, r1, r2⟩ := h.par q (List.mem_filter.1 hq).1 hn
  exact ⟨r, hk r hr r2, r1, r2⟩
theorem Inv.act {L : List Pr} {last : Int} (h : Inv L last) (x : Do) (b : Nat) : Inv (actL L last x b) (actLast L last x) := by
  have hfork : Inv (match forkP L last x.pid with | some p => L ++ [kid last x.pid p b] | none => L) (match forkP L last x.pid with | some _ => last + 1 | none => last) := by
    cases hf : forkP L last x.pid with
    | none => exact h
    | some p => exact h.fork hf b
  unfold actL actLast
  generalize (x.d % 8).toNat = k
  match k with
  | 0 => exact hfork
  | 1 => exact hfork
  | 2 =>
    cases hb : becE L x.pid x.uid x.gid with
    | mk e o =>
      cases o with
      | none => exact h
      | some p' =>
        obtain ⟨_, p, hg, rfl⟩ := becE_put hb
        exact h.put1 (lget_some hg).1 rfl rfl id
  | 3 =>
    cases hb : exP L x.pid x.stat with
    | none => exact h
    | some p' => exact h.exit hb
  | 4 =>
    cases hb : wtZ L x.pid with
    | none => exact h
    | some z => exact h.wait hb
  | 5 =>
    cases hb : kl L x.pid with
    | mk e o =>
      cases o with
      | none => exact h
      | some p' =>
        obtain ⟨_, p, hg, h3, rfl⟩ := kl_put hb
        refine h.put1 (lget_some hg).1 ?_ ?_ ?_
        · show (if p.st = 2 then up p else p).pid = p.pid; split <;> rfl
        · show (if p.st = 2 then up p else p).par = p.par; split <;> rfl
        · show (if p.st = 2 then up p else p).st = 3 → p.st = 3
          split
          · intro e; exact absurd e (by show (1 : Int) ≠ 3; decide)
          · exact id
  | 6 =>
    cases hb : slP L x.pid x.ch with
    | none => exact h
    | some p' =>
      obtain ⟨p, hr, rfl⟩ := slP_put hb
      exact h.put1 (lget_some (rn_some hr).1).1 rfl rfl (fun e => absurd e (by show (2 : Int) ≠ 3; decide))
  | _ + 7 =>
    refine h.mapped _ (fun q _ => (wk_id _ q).1) (fun q _ => ?_) (fun q _ => ?_)
    · unfold wk up; split <;> rfl
    · unfold wk up
      split
      · intro e; exact absurd e (by show (1 : Int) ≠ 3; decide)
      · exact id
/-- Each process but 1 has a parent that is no zombie. -/
theorem Inv.parent {L : List Pr} {last : Int} (h : Inv L last) {p : Pr} (hp : p ∈ L) : (p.pid = 1 → p.par = 0) ∧ (p.pid ≠ 1 → ∃ q, lget L p.par = some q ∧ q.st ≠ 3) := by
  refine ⟨fun e => ?_, fun e => ?_⟩
  · obtain ⟨o, ho, o1, o2, _⟩ := h.one
    rw [h.uniq hp ho (by omega)]; exact o2
  · obtain ⟨r, hr, r1, r2⟩ := h.par p hp e
    exact ⟨r, by rw [← r1]; exact h.get hr, r2⟩
/-- A number that is given is a new one. -/
theorem act_new (L : List Pr) (last : Int) (x : Do) : (actN L last x = 0 ∧ actLast L last x = last) ∨ (actN L last x = last + 1 ∧ actLast L last x = last + 1) := by
  have hfork : ((match forkP L last x.pid with | some _ => last + 1 | none => 0) = 0 ∧ (match forkP L last x.pid with | some _ => last + 1 | none => last) = last) ∨ ((match forkP L last x.pid with | some _ => last + 1 | none => 0) = last + 1 ∧ (match forkP L last x.pid with | some _ => last + 1 | none => last) = last + 1) := by
    cases hf : forkP L last x.pid with
    | none => exact .inl ⟨rfl, rfl⟩
    | some p => exact .inr ⟨rfl, rfl⟩
  unfold actN actLast
  generalize (x.d % 8).toNat = k
  match k with
  | 0 => exact hfork
  | 1 => exact hfork
  | _ + 2 => exact .inl ⟨rfl, rfl⟩
theorem lget_map (f : Pr → Pr) (hf : ∀ q, (f q).pid = q.pid) (L : List Pr) (pid : Int) : lget (L.map f) pid = (lget L pid).map f := by
  unfold lget
  induction L with
  | nil => rfl
  | cons q L ih =>
    rw [List.map_cons, List.find?_cons, List.find?_cons, hf]
    split
    · rfl
    · exact ih
theorem lget_append {L : List Pr} {pid : Int} {q : Pr} (h : lget L pid = some q) (K : List Pr) : lget (L ++ K) pid = some q := by
  unfold lget at h ⊢
  rw [List.find?_append, h]
  rfl
theorem lget_none {L : List Pr} {pid : Int} (h : ∀ q ∈ L, q.pid ≠ pid) : lget L pid = none := by
  unfold lget
  rw [List.find?_eq_none]
  intro q hq e
  exact h q hq (by simpa using e)
/-- What an act leaves as it is of a zombie. -/
structure Zs (q q' : Pr) : Prop where
  pid : q'.pid = q.pid
  st : q'.st = q.st
  ch : q'.ch = q.ch
  stat : q'.stat = q.stat
  kil : q'.kil = q.kil
theorem Zs.refl (q : Pr) : Zs q q := ⟨rfl, rfl, rfl, rfl, rfl⟩
theorem lget_put {L : List Pr} {last : Int} (h : Inv L last) {q p' : Pr} (hq : q ∈ L) : lget (put L p') q.pid = some (if q.pid = p'.pid then p' else q) := by
  unfold put
  rw [lget_map _ (fun x => by split; · rename_i e; exact e.symm
                              · rfl), h.get hq]
  rfl
theorem zombie_keeps {L : List Pr} {last : Int} (h : Inv L last) {q : Pr} (hq : q ∈ L) (h3 : q.st = 3) (x : Do) (b : Nat) :
    (lget (actL L last x b) q.pid = none ∧ x.d % 8 = 4 ∧ x.pid = q.par) ∨ ∃ q', lget (actL L last x b) q.pid = some q' ∧ Zs q q' := by
  have hput : ∀ p p' : Pr, p ∈ L → p'.pid = p.pid → (p = q → Zs q p') → ∃ q', lget (put L p') q.pid = some q' ∧ Zs q q' := by
    intro p p' hp e hz
    refine ⟨_, lget_put h hq, ?_⟩
    split
    · rename_i e2
      exact hz (h.uniq hp hq (by omega))
    · exact Zs.refl q
  have hrn : ∀ pid p e, rn L pid = (some p, e) → p ≠ q := by
    intro pid p e hr e2
    obtain ⟨_, h1, _⟩ := rn_some hr
    rw [e2] at h1
    omega
  have hfork : ∃ q', lget (match forkP L last x.pid with | some p => L ++ [kid last x.pid p b] | none => L) q.pid = some q' ∧ Zs q q' := by
    cases hf : forkP L last x.pid with
    | none => exact ⟨q, h.get hq, Zs.refl q⟩
    | some p => exact ⟨q, lget_append (h.get hq) _, Zs.refl q⟩
  unfold actL
  have hk : (x.d % 8).toNat = x.d % 8 := by omega
  generalize (x.d % 8).toNat = k at hk
  match k, hk with
  | 0, _ => exact .inr hfork
  | 1, _ => exact .inr hfork
  | 2, _ =>
    right
    show ∃ q', lget (putO L (becE L x.pid x.uid x.gid).2) q.pid = some q' ∧ Zs q q'
    cases hb : becE L x.pid x.uid x.gid with
    | mk e o =>
      cases o with
      | none => exact ⟨q, h.get hq, Zs.refl q⟩
      | some p' =>
        obtain ⟨_, p, hg, rfl⟩ := becE_put hb
        exact hput p _ (lget_some hg).1 rfl (fun e => by subst e; exact ⟨rfl, rfl, rfl, rfl, rfl⟩)
  | 3, _ =>
    right
    show ∃ q', lget (match exP L x.pid x.stat with | some p => (put L p).map (adopt x.pid) | none => L) q.pid = some q' ∧ Zs q q'
    cases hb : exP L x.pid x.stat with
    | none => exact ⟨q, h.get hq, Zs.refl q⟩
    | some p' =>
      obtain ⟨p, h1, -, -, hp1, rfl⟩ := exP_put hb
      obtain ⟨q', g1, g2⟩ := hput p { p with st := 3, stat := x.stat } (lget_some (rn_some h1).1).1 rfl (fun e => absurd e (hrn _ _ _ h1))
      refine ⟨adopt x.pid q', ?_, ?_⟩
      · rw [lget_map _ (fun y => (adopt_id x.pid y).1), g1]; rfl
      · unfold adopt
        split
        · exact ⟨g2.pid, g2.st, g2.ch, g2.stat, g2.kil⟩
        · exact g2
  | 4, hk =>
    show (lget (match wtZ L x.pid with | some z => L.filter (fun q => q.pid ≠ z.pid) | none => L) q.pid = none ∧ x.d % 8 = 4 ∧ x.pid = q.par) ∨ ∃ q', lget (match wtZ L x.pid with | some z => L.filter (fun q => q.pid ≠ z.pid) | none => L) q.pid = some q' ∧ Zs q q'
    cases hb : wtZ L x.pid with
    | none => exact .inr ⟨q, h.get hq, Zs.refl q⟩
    | some z =>
      obtain ⟨p, h1, -, hz, z1, z2⟩ := wtZ_some hb
      by_cases e : q.pid = z.pid
      · left
        obtain rfl := h.uniq hq hz e
        refine ⟨lget_none fun y hy => ?_, by omega, z1.symm⟩
        have := (List.mem_filter.1 hy).2
        simpa using this
      · right
        refine ⟨q, ?_, Zs.refl q⟩
        have := (h.wait hb).get (p := q) (List.mem_filter.2 ⟨hq, by simpa using e⟩)
        exact this
  | 5, _ =>
    right
    show ∃ q', lget (putO L (kl L x.pid).2) q.pid = some q' ∧ Zs q q'
    cases hb : kl L x.pid with
    | mk e o =>
      cases o with
      | none => exact ⟨q, h.get hq, Zs.refl q⟩
      | some p' =>
        obtain ⟨_, p, hg, h3', rfl⟩ := kl_put hb
        refine hput p _ (lget_some hg).1 ?_ (fun e => by subst e; exact absurd h3 h3')
        show (if p.st = 2 then up p else p).pid = p.pid; split <;> rfl
  | 6, _ =>
    right
    show ∃ q', lget (putO L (slP L x.pid x.ch)) q.pid = some q' ∧ Zs q q'
    cases hb : slP L x.pid x.ch with
    | none => exact ⟨q, h.get hq, Zs.refl q⟩
    | some p' =>
      obtain ⟨p, hr, rfl⟩ := slP_put hb
      exact hput p _ (lget_some (rn_some hr).1).1 rfl (fun e => absurd e (hrn _ _ _ hr))
  | _ + 7, _ =>
    right
    refine ⟨wk x.ch q, ?_, ?_⟩
    · show lget (L.map (wk x.ch)) q.pid = _
      rw [lget_map _ (fun y => (wk_id x.ch y).1), h.get hq]; rfl
    · unfold wk
      split
      · rename_i e
        simp only [isW, Bool.and_eq_true, decide_eq_true_eq] at e
        omega
      · exact Zs.refl q
/-- Those that are woken, in their order. -/
def woken (L : List Pr) (c : ByteArray) : List Int := (L.filter (isW c)).map (·.pid)
theorem woken_at {L : List Pr} (c : ByteArray) {k : Nat} {q : Pr} (h : L[k]? = some q) (hw : isW c q = true) : (woken L c)[(woken (L.take k) c).length]? = some q.pid := by
  unfold woken
  rw [List.length_map, List.getElem?_map]
  have h1 : L = L.take k ++ L.drop k := (List.take_append_drop k L).symm
  have h2 : L.drop k = q :: L.drop (k + 1) := by
    obtain ⟨hk, e⟩ := List.getElem?_eq_some_iff.1 h
    rw [List.drop_eq_getElem_cons hk, e]
  have h3 : L.filter (isW c) = (L.take k).filter (isW c) ++ q :: (L.drop (k + 1)).filter (isW c) := by
    conv => lhs; rw [h1]
    rw [List.filter_append, h2, List.filter_cons, if_pos hw]
  rw [h3, List.getElem?_append_right (Nat.le_refl _), Nat.sub_self]
  rfl
theorem woken_succ {L : List Pr} (c : ByteArray) {k : Nat} {q : Pr} (h : L[k]? = some q) : (woken (L.take (k + 1)) c).length = (woken (L.take k) c).length + (if isW c q then 1 else 0) := by
  unfold woken
  rw [List.take_add_one, h]
  simp only [Option.toList_some, List.filter_append, List.map_append, List.length_append, List.filter_cons, List.filter_nil]
  split <;> rfl
theorem woken_gone (L : List Pr) (c : ByteArray) : woken (L.map (wk c)) c = [] := by
  unfold woken
  rw [List.map_eq_nil_iff, List.filter_eq_nil_iff]
  intro q hq
  obtain ⟨x, hx, rfl⟩ := List.mem_map.1 hq
  unfold wk
  split
  · simp [isW, up]
  · rename_i e; exact e
theorem woken_lt {L : List Pr} (c : ByteArray) {k : Nat} {q : Pr} (h : L[k]? = some q) (hw : isW c q = true) : (woken (L.take k) c).length < (woken L c).length := (List.getElem?_eq_some_iff.1 (woken_at c h hw)).1
/-- The process 1, and children of it: they run, or are zombies of their status, those of the places from k on. -/
structure Rp (n k : Nat) (g : Nat → Int) (L : List Pr) : Prop where
  asc : L.Pairwise (fun a b => a.pid < b.pid)
  len : L.length ≤ n + 1
  one : ∃ q ∈ L, q.pid = 1
  el : ∀ q ∈ L, (q.pid = 1 ∧ q.st = 1 ∧ q.par = 0) ∨ ∃ j : Nat, j < n ∧ q.pid = (j : Int) + 2 ∧ q.par = 1 ∧ (q.st = 1 ∨ (q.st = 3 ∧ q.stat = g j ∧ k ≤ j))
theorem asc_uniq {p q : Pr} : ∀ {L : List Pr}, L.Pairwise (fun a b => a.pid < b.pid) → p ∈ L → q ∈ L → p.pid = q.pid → p = q := by
  intro L
  induction L with
  | nil => intro _ h; simp at h
  | cons a L ih =>
    intro h1 hp hq e
    rw [List.pairwise_cons] at h1
    rcases List.mem_cons.1 hp with rfl | hp' <;> rcases List.mem_cons.1 hq with rfl | hq'
    · rfl
    · have := h1.1 q hq'; omega
    · have := h1.1 p hp'; omega
    · exact ih h1.2 hp' hq' e
theorem asc_get {L : List Pr} (h : L.Pairwise (fun a b => a.pid < b.pid)) {p : Pr} (hp : p ∈ L) : lget L p.pid = some p := by
  cases hg : lget L p.pid with
  | none => have := List.find?_eq_none.1 hg p hp; simp at this
  | some q => obtain ⟨q1, q2⟩ := lget_some hg; rw [asc_uniq h q1 hp q2]
theorem Rp.bd {n k : Nat} {g : Nat → Int} {L : List Pr} (h : Rp n k g L) (hn : n ≤ 10) : Bd L := ⟨by have := h.len; omega, fun q hq => by
  rcases h.el q hq with ⟨e, _⟩ | ⟨j, hj, e, _⟩ <;> omega⟩
theorem Rp.le {n k : Nat} {g : Nat → Int} {L : List Pr} (h : Rp n k g L) : ∀ q ∈ L, q.pid ≤ (n : Int) + 1 := fun q hq => by
  rcases h.el q hq with ⟨e, _⟩ | ⟨j, hj, e, _⟩ <;> omega
theorem Rp.rn1 {n k : Nat} {g : Nat → Int} {L : List Pr} (h : Rp n k g L) : ∃ p, rn L 1 = (some p, 0) := by
  obtain ⟨q, hq, e⟩ := h.one
  have h1 := asc_get h.asc hq
  rw [e] at h1
  rcases h.el q hq with ⟨_, hs, _⟩ | ⟨j, hj, e2, _⟩
  · exact ⟨q, by unfold rn; rw [h1]; simp [hs]⟩
  · omega
theorem Rp.zero (g : Nat → Int) (b : Nat) : Rp 0 0 g [Go.Proofs.Ytaeabeofpkfadaa.one b] := ⟨List.pairwise_singleton _ _, Nat.le_refl _, ⟨_, List.mem_singleton.2 rfl, rfl⟩, fun q hq => by obtain rfl := List.mem_singleton.1 hq; exact .inl ⟨rfl, rfl, rfl⟩⟩
theorem Rp.fork {n : Nat} {g : Nat → Int} {L : List Pr} (h : Rp n 0 g L) (p : Pr) (b : Nat) : Rp (n + 1) 0 g (L ++ [kid ((n : Int) + 1) 1 p b]) := by
  refine ⟨?_, by have := h.len; rw [List.length_append, List.length_singleton]; omega, ?_, ?_⟩
  · rw [List.pairwise_append]
    exact ⟨h.asc, List.pairwise_singleton _ _, fun a ha b hb => by obtain rfl := List.mem_singleton.1 hb; have := h.le a ha; show a.pid < (n : Int) + 1 + 1; omega⟩
  · obtain ⟨q, hq, e⟩ := h.one
    exact ⟨q, List.mem_append_left _ hq, e⟩
  · intro q hq
    rcases List.mem_append.1 hq with hq | hq
    · rcases h.el q hq with h1 | ⟨j, hj, r⟩
      · exact .inl h1
      · exact .inr ⟨j, by omega, r⟩
    · obtain rfl := List.mem_singleton.1 hq
      exact .inr ⟨n, by omega, by show (n : Int) + 1 + 1 = n + 2; omega, rfl, .inl rfl⟩
theorem Rp.exit {n : Nat} {g : Nat → Int} {L : List Pr} (h : Rp n 0 g L) {j : Nat} {p : Pr} {e : Int} (hr : rn L ((j : Int) + 2) = (some p, e)) : Rp n 0 g ((put L { p with st := 3, stat := g j }).map (adopt ((j : Int) + 2))) := by
  obtain ⟨h1, h2, -⟩ := rn_some hr
  obtain ⟨h3, h4⟩ := lget_some h1
  have hpar : ∀ q ∈ L, q.par = 0 ∨ q.par = 1 := fun q hq => by
    rcases h.el q hq with ⟨_, _, e⟩ | ⟨_, _, _, e, _⟩ <;> omega
  have had : (put L { p with st := 3, stat := g j }).map (adopt ((j : Int) + 2)) = put L { p with st := 3, stat := g j } := by
    conv => rhs; rw [← List.map_id (put L { p with st := 3, stat := g j })]
    refine List.map_congr_left fun q hq => ?_
    have hp : q.par = 0 ∨ q.par = 1 := by
      rcases put_mem hq with rfl | ⟨hq, _⟩
      · exact hpar p h3
      · exact hpar q hq
    unfold adopt
    rw [if_neg (by omega)]
    rfl
  rw [had]
  refine ⟨?_, by rw [put_length]; exact h.len, ?_, ?_⟩
  · have := (List.pairwise_map (f := Pr.pid) (R := fun a b : Int => a < b)).2 h.asc
    refine (List.pairwise_map (f := Pr.pid) (R := fun a b : Int => a < b)).1 ?_
    rw [show List.map Pr.pid (put L _) = _ from put_pids L _]
    exact this
  · obtain ⟨q, hq, e⟩ := h.one
    refine ⟨q, List.mem_map.2 ⟨q, hq, if_neg ?_⟩, e⟩
    show q.pid ≠ p.pid
    omega
  · intro q hq
    rcases put_mem hq with rfl | ⟨hq, _⟩
    · rcases h.el p h3 with ⟨e, _⟩ | ⟨i, hi, e, e2, _⟩
      · omega
      · obtain rfl : i = j := by omega
        exact .inr ⟨i, hi, e, e2, .inr ⟨rfl, rfl, by omega⟩⟩
    · exact h.el q hq
/-- The least zombie is found. -/
theorem Rp.find {n k : Nat} {g : Nat → Int} {L : List Pr} (h : Rp n k g L) {z : Pr} (hz : lget L ((k : Int) + 2) = some z) (h3 : z.st = 3) : L.find? (zom 1) = some z ∧ z.pid = (k : Int) + 2 ∧ z.stat = g k := by
  obtain ⟨z1, z2⟩ := lget_some hz
  have hzz : z.par = 1 ∧ z.stat = g k := by
    rcases h.el z z1 with ⟨e, _⟩ | ⟨j, hj, e, e2, e3 | ⟨e3, e4, e5⟩⟩
    · omega
    · omega
    · obtain rfl : j = k := by omega
      exact ⟨e2, e4⟩
  refine ⟨?_, z2, hzz.2⟩
  cases hf : L.find? (zom 1) with
  | none =>
    have := List.find?_eq_none.1 hf z z1
    simp [zom, hzz.1, h3] at this
  | some y =>
    obtain ⟨hy, as1, bs1, e, hb⟩ := List.find?_eq_some_iff_append.1 hf
    congr 1
    have hyL : y ∈ L := List.mem_of_find?_eq_some hf
    have hyz : zom 1 z = true := by simp [zom, hzz.1, h3]
    simp only [zom, Bool.and_eq_true, decide_eq_true_eq] at hy
    have hyk : y.pid ≥ (k : Int) + 2 := by
      rcases h.el y hyL with ⟨_, e, _⟩ | ⟨j, hj, e, e2, e3 | ⟨e3, e4, e5⟩⟩ <;> omega
    have hzin : z ∈ as1 ∨ z ∈ y :: bs1 := by rw [e] at z1; exact List.mem_append.1 z1
    rcases hzin with hza | hzb
    · have := hb z hza
      rw [hyz] at this
      cases this
    · rcases List.mem_cons.1 hzb with rfl | hzb
      · rfl
      · have ha := h.asc
        rw [e, List.pairwise_append, List.pairwise_cons] at ha
        have := ha.2.1.1 z hzb
        omega
theorem Rp.reap {n k : Nat} {g : Nat → Int} {L : List Pr} (h : Rp n k g L) {z : Pr} (hz : z.pid = (k : Int) + 2) : Rp n (k + 1) g (L.filter (fun q => q.pid ≠ z.pid)) := by
  refine ⟨h.asc.filter _, Nat.le_trans (List.length_filter_le _ _) h.len, ?_, ?_⟩
  · obtain ⟨q, hq, e⟩ := h.one
    exact ⟨q, List.mem_filter.2 ⟨hq, by simp; omega⟩, e⟩
  · intro q hq
    obtain ⟨hq, hn⟩ := List.mem_filter.1 hq
    simp only [ne_eq, decide_not, Bool.not_eq_true', decide_eq_false_iff_not] at hn
    rcases h.el q hq with h1 | ⟨j, hj, e, e2, e3 | ⟨e3, e4, e5⟩⟩
    · exact .inl h1
    · exact .inr ⟨j, hj, e, e2, .inl e3⟩
    · exact .inr ⟨j, hj, e, e2, .inr ⟨e3, e4, by omega⟩⟩
theorem Rp.skip {n k : Nat} {g : Nat → Int} {L : List Pr} (h : Rp n k g L) (hz : ∀ z, lget L ((k : Int) + 2) = some z → z.st ≠ 3) : Rp n (k + 1) g L := by
  refine ⟨h.asc, h.len, h.one, fun q hq => ?_⟩
  rcases h.el q hq with h1 | ⟨j, hj, e, e2, e3 | ⟨e3, e4, e5⟩⟩
  · exact .inl h1
  · exact .inr ⟨j, hj, e, e2, .inl e3⟩
  · refine .inr ⟨j, hj, e, e2, .inr ⟨e3, e4, ?_⟩⟩
    rcases Nat.eq_or_lt_of_le e5 with rfl | h'
    · exact absurd e3 (hz q (by rw [← e]; exact asc_get h.asc hq))
    · omega
theorem Rp.none {n : Nat} {g : Nat → Int} {L : List Pr} (h : Rp n n g L) : L.find? (zom 1) = Option.none := by
  rw [List.find?_eq_none]
  intro q hq hz
  simp only [zom, Bool.and_eq_true, decide_eq_true_eq] at hz
  rcases h.el q hq with h1 | ⟨j, hj, e, e2, e3 | ⟨e3, e4, e5⟩⟩ <;> omega
/-- The blocks behind an act. -/
theorem put_b {L : List Pr} {p' : Pr} {q : Pr} (hq : q ∈ put L p') (hp : ∃ p ∈ L, p'.b = p.b) : ∃ p ∈ L, q.b = p.b := by
  rcases put_mem hq with rfl | ⟨hq, _⟩
  · exact hp
  · exact ⟨q, hq, rfl⟩
theorem act_b {L : List Pr} {last : Int} (x : Do) (b : Nat) : ∀ q ∈ actL L last x b, q.b = b ∨ ∃ p ∈ L, q.b = p.b := by
  intro q
  have hid : ∀ q, q ∈ L → q.b = b ∨ ∃ p ∈ L, q.b = p.b := fun q hq => .inr ⟨q, hq, rfl⟩
  have hfork : q ∈ (match forkP L last x.pid with | some p => L ++ [kid last x.pid p b] | none => L) → q.b = b ∨ ∃ p ∈ L, q.b = p.b := by
    intro hq
    cases hf : forkP L last x.pid with
    | none => rw [hf] at hq; exact hid q hq
    | some p =>
      rw [hf] at hq
      rcases List.mem_append.1 hq with hq | hq
      · exact hid q hq
      · obtain rfl := List.mem_singleton.1 hq; exact .inl rfl
  unfold actL
  generalize (x.d % 8).toNat = k
  match k with
  | 0 => exact hfork
  | 1 => exact hfork
  | 2 =>
    intro hq
    have hq : q ∈ putO L (becE L x.pid x.uid x.gid).2 := hq
    cases hb : becE L x.pid x.uid x.gid with
    | mk e o =>
      rw [hb] at hq
      cases o with
      | none => exact hid q hq
      | some p' =>
        obtain ⟨_, p, hg, rfl⟩ := becE_put hb
        exact .inr (put_b hq ⟨p, (lget_some hg).1, rfl⟩)
  | 3 =>
    intro hq
    have hq : q ∈ (match exP L x.pid x.stat with | some p => (put L p).map (adopt x.pid) | none => L) := hq
    cases hb : exP L x.pid x.stat with
    | none => rw [hb] at hq; exact hid q hq
    | some p' =>
      rw [hb] at hq
      obtain ⟨p, h1, -, -, -, rfl⟩ := exP_put hb
      obtain ⟨y, hy, rfl⟩ := List.mem_map.1 hq
      rw [(adopt_id x.pid y).2]
      exact .inr (put_b hy ⟨p, (lget_some (rn_some h1).1).1, rfl⟩)
  | 4 =>
    intro hq
    have hq : q ∈ (match wtZ L x.pid with | some z => L.filter (fun q : Pr => q.pid ≠ z.pid) | none => L) := hq
    cases hb : wtZ L x.pid with
    | none => rw [hb] at hq; exact hid q hq
    | some z => rw [hb] at hq; exact hid q (List.mem_filter.1 hq).1
  | 5 =>
    intro hq
    have hq : q ∈ putO L (kl L x.pid).2 := hq
    cases hb : kl L x.pid with
    | mk e o =>
      rw [hb] at hq
      cases o with
      | none => exact hid q hq
      | some p' =>
        obtain ⟨_, p, hg, _, rfl⟩ := kl_put hb
        refine .inr (put_b hq ⟨p, (lget_some hg).1, ?_⟩)
        show (if p.st = 2 then up p else p).b = p.b; split <;> rfl
  | 6 =>
    intro hq
    have hq : q ∈ putO L (slP L x.pid x.ch) := hq
    cases hb : slP L x.pid x.ch with
    | none => rw [hb] at hq; exact hid q hq
    | some p' =>
      rw [hb] at hq
      obtain ⟨p, hr, rfl⟩ := slP_put hb
      exact .inr (put_b hq ⟨p, (lget_some (rn_some hr).1).1, rfl⟩)
  | _ + 7 =>
    intro hq
    have hq : q ∈ L.map (wk x.ch) := hq
    obtain ⟨y, hy, rfl⟩ := List.mem_map.1 hq
    exact .inr ⟨y, hy, (wk_id _ y).2⟩
theorem act_fresh {L : List Pr} {last : Int} {x : Do} {b s : Nat} (h : ∀ p ∈ L, s ≤ p.b) (hb : s ≤ b) : ∀ q ∈ actL L last x b, s ≤ q.b := fun q hq => by
  rcases act_b x b q hq with e | ⟨p, hp, e⟩
  · omega
  · have := h p hp; omega
end Go.Proofs.Ytaeabeofpkfadaa
