/- undo: plain laws of adjustments. No condition. -/
import Derived.Test.YtcnocfboklhjnaaMp
namespace Go.Proofs.Ytcnocfboklhjnaa.Un
open Go.RowKit Go.Shelf

/-- An adjustment. -/
structure Ad where
  id : Int
  num : Int
  n : Int
abbrev Ad.key (a : Ad) : Int × Int := (a.id, a.num)
/-- Places in their order. -/
def klt (p q : Int × Int) : Prop := p.1 < q.1 ∨ (p.1 = q.1 ∧ p.2 < q.2)
theorem klt_irr (p : Int × Int) : ¬ klt p p := by unfold klt; omega
theorem klt_trans {p q r : Int × Int} (h : klt p q) (g : klt q r) : klt p r := by unfold klt at *; omega
theorem klt_tri (p q : Int × Int) : klt p q ∨ p = q ∨ klt q p := by
  unfold klt
  obtain ⟨a, b⟩ := p
  obtain ⟨c, d⟩ := q
  simp only [Prod.mk.injEq]
  omega
instance (p q : Int × Int) : Decidable (klt p q) := by unfold klt; infer_instance
def okA (a : Ad) : Prop := 0 ≤ a.id ∧ 0 ≤ a.num ∧ a.n ≠ 0 ∧ -32767 ≤ a.n ∧ a.n ≤ 32767
/-- Which adjustments are right. -/
structure Right (l : List Ad) : Prop where
  len : l.length ≤ 64
  ok : ∀ a ∈ l, okA a
  asc : l.Pairwise (fun a b => klt a.key b.key)
/-- All but how many there are. -/
structure RightL (l : List Ad) : Prop where
  ok : ∀ a ∈ l, okA a
  asc : l.Pairwise (fun a b => klt a.key b.key)
def ofN (l : List Ad) (id num : Int) : Int := match l.find? (fun a => decide (a.id = id ∧ a.num = num)) with
  | some a => a.n
  | none => 0
theorem ofN_nil (id num : Int) : ofN [] id num = 0 := rfl
theorem ofN_cons (a : Ad) (l : List Ad) (id num : Int) : ofN (a :: l) id num = if a.id = id ∧ a.num = num then a.n else ofN l id num := by
  unfold ofN
  rw [List.find?_cons]
  by_cases h : a.id = id ∧ a.num = num
  · simp [h]
  · simp [h]
theorem ofN_none {l : List Ad} {id num : Int} (h : ∀ a ∈ l, ¬ (a.id = id ∧ a.num = num)) : ofN l id num = 0 := by
  induction l with
  | nil => rfl
  | cons a l ih => rw [ofN_cons, if_neg (h a (List.mem_cons_self ..)), ih (fun x hx => h x (List.mem_cons_of_mem _ hx))]
theorem ofN_mem {l : List Ad} (h : l.Pairwise (fun a b => klt a.key b.key)) {a : Ad} (ha : a ∈ l) : ofN l a.id a.num = a.n := by
  induction l with
  | nil => simp at ha
  | cons x l ih =>
    rw [List.pairwise_cons] at h
    rw [ofN_cons]
    rcases List.mem_cons.1 ha with rfl | ha
    · simp
    · have := h.1 a ha
      rw [if_neg (by rintro ⟨e1, e2⟩; unfold klt at this; simp only at this; omega)]
      exact ih h.2 ha
/-- Adjustments with another one of its place (0: without). -/
def upd : List Ad → Ad → List Ad
  | [], x => if x.n = 0 then [] else [x]
  | a :: l, x => if klt a.key x.key then a :: upd l x else if a.key = x.key then (if x.n = 0 then l else x :: l) else (if x.n = 0 then a :: l else x :: a :: l)
theorem upd_mem {l : List Ad} {x y : Ad} (h : y ∈ upd l x) : y = x ∧ x.n ≠ 0 ∨ y ∈ l := by
  induction l with
  | nil =>
    unfold upd at h
    split at h
    · simp at h
    · left; exact ⟨by simpa using h, by assumption⟩
  | cons a l ih =>
    unfold upd at h
    split at h
    · rcases List.mem_cons.1 h with rfl | h
      · exact .inr (List.mem_cons_self ..)
      · rcases ih h with h | h
        · exact .inl h
        · exact .inr (List.mem_cons_of_mem _ h)
    · split at h
      · split at h
        · exact .inr (List.mem_cons_of_mem _ h)
        · rcases List.mem_cons.1 h with rfl | h
          · exact .inl ⟨rfl, by assumption⟩
          · exact .inr (List.mem_cons_of_mem _ h)
      · split at h
        · exact .inr h
        · rcases List.mem_cons.1 h with rfl | h
          · exact .inl ⟨rfl, by assumption⟩
          · exact .inr h
theorem upd_asc {l : List Ad} (h : l.Pairwise (fun a b => klt a.key b.key)) (x : Ad) : (upd l x).Pairwise (fun a b => klt a.key b.key) := by
  induction l with
  | nil => unfold upd; split <;> simp
  | cons a l ih =>
    rw [List.pairwise_cons] at h
    unfold upd
    split
    · rename_i h1
      rw [List.pairwise_cons]
      refine ⟨fun y hy => ?_, ih h.2⟩
      rcases upd_mem hy with ⟨rfl, _⟩ | hy
      · exact h1
      · exact h.1 y hy
    · rename_i h1
      split
      · rename_i h2
        split
        · exact h.2
        · rw [List.pairwise_cons]
          exact ⟨fun y hy => by rw [← h2]; exact h.1 y hy, h.2⟩
      · rename_i h2
        split
        · rw [List.pairwise_cons]; exact h
        · rw [List.pairwise_cons, List.pairwise_cons]
          have h3 : klt x.key a.key := by
            rcases klt_tri a.key x.key with h | h | h
            · exact absurd h h1
            · exact absurd h h2
            · exact h
          refine ⟨fun y hy => ?_, h⟩
          rcases List.mem_cons.1 hy with rfl | hy
          · exact h3
          · exact klt_trans h3 (h.1 y hy)
theorem RightL.upd {l : List Ad} (h : RightL l) {x : Ad} (hx : x.n ≠ 0 → okA x) : RightL (upd l x) :=
  ⟨fun a ha => by
    rcases upd_mem ha with ⟨rfl, h0⟩ | ha
    · exact hx h0
    · exact h.ok a ha, upd_asc h.asc x⟩
theorem key_iff (a : Ad) (id num : Int) : (a.id = id ∧ a.num = num) ↔ a.key = (id, num) := by simp [Prod.ext_iff]
theorem ofN_upd {l : List Ad} (h : l.Pairwise (fun a b => klt a.key b.key)) (x : Ad) (id num : Int) : ofN (upd l x) id num = if x.id = id ∧ x.num = num then x.n else ofN l id num := by
  induction l with
  | nil =>
    unfold upd
    by_cases h0 : x.n = 0
    · rw [if_pos h0, ofN_nil]; split <;> simp [h0]
    · rw [if_neg h0, ofN_cons, ofN_nil]
  | cons a l ih =>
    rw [List.pairwise_cons] at h
    have ih := ih h.2
    have hno : ∀ q : Int × Int, (klt q a.key ∨ q = a.key) → ofN l q.1 q.2 = 0 := fun q hq => ofN_none fun y hy e => by
      have h1 := h.1 y hy
      have h2 : y.key = q := Prod.ext e.1 e.2
      rw [h2] at h1
      rcases hq with hq | hq
      · exact klt_irr _ (klt_trans h1 hq)
      · rw [hq] at h1; exact klt_irr _ h1
    unfold upd
    split
    · rename_i h1
      rw [ofN_cons, ih, ofN_cons]
      by_cases e1 : a.id = id ∧ a.num = num
      · rw [if_pos e1, if_pos e1, if_neg]
        rintro e2
        have : a.key = x.key := Prod.ext (e1.1.trans e2.1.symm) (e1.2.trans e2.2.symm)
        rw [this] at h1
        exact klt_irr _ h1
      · rw [if_neg e1, if_neg e1]
    · rename_i h1
      split
      · rename_i h2
        have h2' : a.id = x.id ∧ a.num = x.num := ⟨congrArg Prod.fst h2, congrArg Prod.snd h2⟩
        split
        · rename_i h0
          rw [ofN_cons]
          by_cases e2 : x.id = id ∧ x.num = num
          · rw [if_pos e2, h0]
            have := hno (id, num) (.inr (by rw [← e2.1, ← e2.2]; exact h2.symm))
            exact this
          · rw [if_neg e2, if_neg (by omega)]
        · rw [ofN_cons, ofN_cons]
          by_cases e2 : x.id = id ∧ x.num = num
          · rw [if_pos e2, if_pos e2]
          · rw [if_neg e2, if_neg e2, if_neg (by omega)]
      · rename_i h2
        have h3 : klt x.key a.key := by
          rcases klt_tri a.key x.key with h | h | h
          · exact absurd h h1
          · exact absurd h h2
          · exact h
        split
        · rename_i h0
          by_cases e2 : x.id = id ∧ x.num = num
          · rw [if_pos e2, h0, ofN_cons, if_neg, ← e2.1, ← e2.2]
            · exact hno x.key (.inl h3)
            · intro e1
              have : a.key = x.key := Prod.ext (e1.1.trans e2.1.symm) (e1.2.trans e2.2.symm)
              rw [this] at h3
              exact klt_irr _ h3
          · rw [if_neg e2]
        · rw [ofN_cons]
/-- Two lists in order, of the same numbers, are the same. -/
theorem asc_ext : ∀ {l k : List Ad}, RightL l → RightL k → (∀ id num, ofN l id num = ofN k id num) → l = k
  | [], [], _, _, _ => rfl
  | [], b :: k, _, hk, h => by
    have := h b.id b.num
    rw [ofN_nil, ofN_cons, if_pos ⟨rfl, rfl⟩] at this
    exact absurd this.symm (hk.ok b (List.mem_cons_self ..)).2.2.1
  | a :: l, [], hl, _, h => by
    have := h a.id a.num
    rw [ofN_nil, ofN_cons, if_pos ⟨rfl, rfl⟩] at this
    exact absurd this (hl.ok a (List.mem_cons_self ..)).2.2.1
  | a :: l, b :: k, hl, hk, h => by
    have hla := hl.asc
    have hka := hk.asc
    rw [List.pairwise_cons] at hla hka
    have low : ∀ (c : Ad) (m : List Ad), (∀ y ∈ m, klt c.key y.key) → ∀ q : Int × Int, (klt q c.key) → ofN (c :: m) q.1 q.2 = 0 := fun c m hm q hq => ofN_none fun y hy e => by
      have h2 : y.key = q := Prod.ext e.1 e.2
      rcases List.mem_cons.1 hy with rfl | hy
      · rw [← h2] at hq; exact klt_irr _ hq
      · have := hm y hy
        rw [h2] at this
        exact klt_irr _ (klt_trans this hq)
    have hkey : a.key = b.key := by
      rcases klt_tri a.key b.key with g | g | g
      · have h1 := h a.id a.num
        have h2 := low b k hka.1 a.key g
        simp only at h2
        rw [h2, ofN_cons, if_pos ⟨rfl, rfl⟩] at h1
        exact absurd h1 (hl.ok a (List.mem_cons_self ..)).2.2.1
      · exact g
      · have h1 := h b.id b.num
        have h2 := low a l hla.1 b.key g
        simp only at h2
        rw [h2, ofN_cons, if_pos ⟨rfl, rfl⟩] at h1
        exact absurd h1.symm (hk.ok b (List.mem_cons_self ..)).2.2.1
    have h1 : a.id = b.id := congrArg Prod.fst hkey
    have h2 : a.num = b.num := congrArg Prod.snd hkey
    have hn : a.n = b.n := by
      have := h a.id a.num
      rw [ofN_cons, ofN_cons, if_pos ⟨rfl, rfl⟩, if_pos ⟨h1.symm, h2.symm⟩] at this
      exact this
    have hab : a = b := by cases a; cases b; simp_all
    subst hab
    congr 1
    refine asc_ext ⟨fun x hx => hl.ok x (List.mem_cons_of_mem _ hx), hla.2⟩ ⟨fun x hx => hk.ok x (List.mem_cons_of_mem _ hx), hka.2⟩ fun id num => ?_
    have := h id num
    rw [ofN_cons, ofN_cons] at this
    by_cases e : a.id = id ∧ a.num = num
    · have h3 : ofN l id num = 0 := ofN_none fun y hy e2 => by
        have := hla.1 y hy
        have h4 : y.key = a.key := Prod.ext (e2.1.trans e.1.symm) (e2.2.trans e.2.symm)
        rw [h4] at this; exact klt_irr _ this
      have h4 : ofN k id num = 0 := ofN_none fun y hy e2 => by
        have := hka.1 y hy
        have h4 : y.key = a.key := Prod.ext (e2.1.trans e.1.symm) (e2.2.trans e.2.symm)
        rw [h4] at this; exact klt_irr _ this
      rw [h3, h4]
    · rw [if_neg e, if_neg e] at this; exact this
/-- An operation: whose number, by how much, whether it is to be undone. -/
structure Op where
  num : Int
  delta : Int
  u : Bool
def outR (n : Int) : Prop := n < -32767 ∨ 32767 < n
instance (n : Int) : Decidable (outR n) := by unfold outR; infer_instance
/-- What is recorded; none: a number is too great. -/
def recL (id : Int) : List Ad → List Op → Option (List Ad)
  | l, [] => some l
  | l, o :: r => if o.u then (if outR (ofN l id o.num - o.delta) then none else recL id (upd l ⟨id, o.num, ofN l id o.num - o.delta⟩) r) else recL id l r
theorem recL_append (id : Int) (a b : List Op) : ∀ l : List Ad, recL id l (a ++ b) = (recL id l a).bind (fun m => recL id m b) := by
  induction a with
  | nil => intro l; rfl
  | cons o a ih =>
    intro l
    simp only [List.cons_append, recL]
    split
    · split
      · rfl
      · exact ih _
    · exact ih _
theorem recL_right {id : Int} (hid : 0 ≤ id) : ∀ {ops : List Op} {l l' : List Ad}, RightL l → (∀ o ∈ ops, 0 ≤ o.num) → recL id l ops = some l' → RightL l'
  | [], l, l', h, _, e => by simp only [recL, Option.some.injEq] at e; exact e ▸ h
  | o :: r, l, l', h, ho, e => by
    have hr : ∀ x ∈ r, 0 ≤ x.num := fun x hx => ho x (List.mem_cons_of_mem _ hx)
    unfold recL at e
    split at e
    · split at e
      · cases e
      · rename_i hb
        unfold outR at hb
        exact recL_right hid (h.upd (fun h0 => ⟨hid, ho o (List.mem_cons_self ..), h0, by simp only; omega, by simp only; omega⟩)) hr e
    · exact recL_right hid h hr e
/-- By how much a number is undone. -/
def sumU (num : Int) : List Op → Int
  | [] => 0
  | o :: r => (if o.u ∧ o.num = num then o.delta else 0) + sumU num r
theorem recL_of {id : Int} : ∀ {ops : List Op} {l l' : List Ad}, l.Pairwise (fun a b => klt a.key b.key) → recL id l ops = some l' → ∀ i num, ofN l' i num = ofN l i num - (if i = id then sumU num ops else 0)
  | [], l, l', _, e, i, num => by simp only [recL, Option.some.injEq] at e; subst e; simp [sumU]
  | o :: r, l, l', h, e, i, num => by
    unfold recL at e
    split at e
    · rename_i hu
      split at e
      · cases e
      · rw [recL_of (upd_asc h _) e i num, ofN_upd h]
        simp only [sumU, hu, true_and]
        by_cases hi : id = i
        · subst hi
          by_cases hn : o.num = num
          · subst hn; simp; omega
          · simp [hn]
        · have : ¬ i = id := fun e => hi e.symm
          simp [hi, this]
    · rename_i hu
      rw [recL_of h e i num]
      simp [sumU, hu]
/-- What is left out. -/
def clr (l : List Ad) (id num : Int) : List Ad := l.filter (fun a => !(decide (a.id = id) && (decide (num < 0) || decide (a.num = num))))
theorem clr_right {l : List Ad} (h : Right l) (id num : Int) : Right (clr l id num) :=
  ⟨Nat.le_trans (List.length_filter_le _ _) h.len, fun a ha => h.ok a (List.mem_filter.1 ha).1, h.asc.filter _⟩
theorem ofN_clr (l : List Ad) (id num i n : Int) : ofN (clr l id num) i n = if i = id ∧ (num < 0 ∨ n = num) then 0 else ofN l i n := by
  induction l with
  | nil => unfold clr; simp [ofN_nil]
  | cons a l ih =>
    unfold clr at ih ⊢
    rw [List.filter_cons, ofN_cons]
    by_cases hc : a.id = id ∧ (num < 0 ∨ a.num = num)
    · have hb : (!(decide (a.id = id) && (decide (num < 0) || decide (a.num = num)))) = false := by simp; exact ⟨hc.1, by omega⟩
      rw [if_neg (by rw [hb]; simp), ih]
      by_cases e : a.id = i ∧ a.num = n
      · rw [if_pos (by omega), if_pos (by omega)]
      · rw [if_neg e]
    · have hb : (!(decide (a.id = id) && (decide (num < 0) || decide (a.num = num)))) = true := by simp; omega
      rw [if_pos hb, ofN_cons, ih]
      by_cases e : a.id = i ∧ a.num = n
      · rw [if_pos e, if_pos e, if_neg (by omega)]
      · rw [if_neg e, if_neg e]
/-- What is done, and its opposite, leaves no adjustment. -/
theorem rec_zero {l : List Ad} (h : RightL l) {id num delta : Int} (hid : 0 ≤ id) (hnum : 0 ≤ num) : recL id l [⟨num, delta, true⟩, ⟨num, -delta, true⟩] = none ∨ recL id l [⟨num, delta, true⟩, ⟨num, -delta, true⟩] = some l := by
  cases e : recL id l [⟨num, delta, true⟩, ⟨num, -delta, true⟩] with
  | none => exact .inl rfl
  | some k =>
    right
    congr 1
    refine asc_ext (recL_right hid h (by intro o ho; simp at ho; rcases ho with rfl | rfl <;> exact hnum) e) h fun i n => ?_
    rw [recL_of h.asc e]
    simp only [sumU, true_and]
    split
    · split <;> omega
    · omega

/-- Values with adjustments. -/
def cl (n : Int) : Int := max 0 (min 32767 n)
def appl (l : List Ad) (id : Int) (vs : List Int) : List Int := vs.mapIdx fun i v => cl (v + ofN l id i)
/-- The program's way: one adjustment behind the other. -/
def app1 (id : Int) (vs : List Int) (a : Ad) : List Int := if a.id = id ∧ 0 ≤ a.num ∧ a.num < vs.length then vs.set a.num.toNat (cl (vs.getD a.num.toNat 0 + a.n)) else vs
theorem app1_len (id : Int) (vs : List Int) (a : Ad) : (app1 id vs a).length = vs.length := by unfold app1; split <;> simp
theorem app1_get (id : Int) (vs : List Int) (a : Ad) (i : Nat) : (app1 id vs a)[i]? = (vs[i]?).map fun v => if a.id = id ∧ a.num = (i : Int) then cl (v + a.n) else v := by
  unfold app1
  by_cases h : a.id = id ∧ 0 ≤ a.num ∧ a.num < vs.length
  · rw [if_pos h, List.getElem?_set]
    by_cases e : a.num.toNat = i
    · subst e
      have hl : a.num.toNat < vs.length := by omega
      rw [if_pos rfl, if_pos hl, List.getElem?_eq_getElem hl, Option.map_some, if_pos ⟨h.1, by omega⟩, List.getD_eq_getElem?_getD, List.getElem?_eq_getElem hl]
      rfl
    · rw [if_neg e]
      cases hv : vs[i]? with
      | none => rfl
      | some v => rw [Option.map_some, if_neg (by omega)]
  · rw [if_neg h]
    cases hv : vs[i]? with
    | none => rfl
    | some v =>
      have := (List.getElem?_eq_some_iff.1 hv).1
      rw [Option.map_some, if_neg (by omega)]
theorem foldl_app1 (id : Int) : ∀ (l : List Ad), l.Pairwise (fun a b => klt a.key b.key) → ∀ vs : List Int, (∀ v ∈ vs, 0 ≤ v ∧ v ≤ 32767) → l.foldl (app1 id) vs = appl l id vs := by
  intro l h vs hv
  apply List.ext_getElem?
  intro i
  have key : ∀ (l : List Ad), l.Pairwise (fun a b => klt a.key b.key) → ∀ vs : List Int, (l.foldl (app1 id) vs)[i]? = (vs[i]?).map fun v => if ∃ a ∈ l, a.id = id ∧ a.num = (i : Int) then cl (v + ofN l id i) else v := by
    intro l
    induction l with
    | nil =>
      intro _ vs
      rw [List.foldl_nil]
      generalize vs[i]? = o
      cases o <;> simp
    | cons a l ih =>
      intro h vs
      rw [List.pairwise_cons] at h
      rw [List.foldl_cons, ih h.2, app1_get]
      cases vs[i]? with
      | none => rfl
      | some v =>
        simp only [Option.map_some, Option.some.injEq]
        by_cases e : a.id = id ∧ a.num = (i : Int)
        · have hno : ¬ ∃ x ∈ l, x.id = id ∧ x.num = (i : Int) := by
            rintro ⟨x, hx, e1, e2⟩
            have := h.1 x hx
            unfold klt at this
            simp only at this
            omega
          rw [if_neg hno, if_pos e, if_pos ⟨a, List.mem_cons_self .., e⟩, ofN_cons, if_pos e]
        · rw [if_neg e, ofN_cons, if_neg e]
          have : (∃ x ∈ a :: l, x.id = id ∧ x.num = (i : Int)) ↔ ∃ x ∈ l, x.id = id ∧ x.num = (i : Int) := by simp [e]
          simp only [this]
  rw [key l h vs]
  unfold appl
  rw [List.getElem?_mapIdx]
  cases hvi : vs[i]? with
  | none => rfl
  | some v =>
    simp only [Option.map_some, Option.some.injEq]
    split
    · rfl
    · rename_i hno
      rw [ofN_none (fun a ha e => hno ⟨a, ha, e⟩)]
      have := hv v (List.mem_of_getElem? hvi)
      unfold cl
      omega
/-- What operations do to values; none: they are refused, or wait. -/
def tryL : List Int → List Op → Option (List Int)
  | vs, [] => some vs
  | vs, o :: r => if 0 ≤ o.num ∧ o.num < vs.length ∧ 0 ≤ vs.getD o.num.toNat 0 + o.delta ∧ vs.getD o.num.toNat 0 + o.delta ≤ 32767 then tryL (vs.set o.num.toNat (vs.getD o.num.toNat 0 + o.delta)) r else none
/-- What was done, recorded, and applied, is as if it had not been done. -/
theorem back_law {vs0 : List Int} (h0 : ∀ v ∈ vs0, 0 ≤ v ∧ v ≤ 32767) : ∀ (ops : List Op) (vs now : List Int) (l : List Ad), (∀ o ∈ ops, o.u = true) → RightL l → (∀ a ∈ l, a.id = 3) → vs.length = vs0.length → (∀ v ∈ vs, 0 ≤ v ∧ v ≤ 32767) →
    (∀ (i : Nat) (v : Int), vs[i]? = some v → vs0[i]? = some (v + ofN l 3 i)) → tryL vs ops = some now →
    ∃ l', recL 3 l ops = some l' ∧ RightL l' ∧ (∀ a ∈ l', a.id = 3) ∧ now.length = vs0.length ∧ (∀ v ∈ now, 0 ≤ v ∧ v ≤ 32767) ∧ ∀ (i : Nat) (v : Int), now[i]? = some v → vs0[i]? = some (v + ofN l' 3 i)
  | [], vs, now, l, _, hl, h3, hlen, hv, hrel, e => by
    simp only [tryL, Option.some.injEq] at e
    subst e
    exact ⟨l, rfl, hl, h3, hlen, hv, hrel⟩
  | o :: r, vs, now, l, hu, hl, h3, hlen, hv, hrel, e => by
    unfold tryL at e
    split at e
    · rename_i hc
      obtain ⟨c1, c2, c3, c4⟩ := hc
      have hoL : o.num.toNat < vs.length := by omega
      obtain ⟨x, hx⟩ : ∃ x, vs[o.num.toNat]? = some x := ⟨_, List.getElem?_eq_getElem hoL⟩
      have hgx : vs.getD o.num.toNat 0 = x := by rw [List.getD_eq_getElem?_getD, hx]; rfl
      rw [hgx] at e c3 c4
      have hr0 := hrel o.num.toNat x hx
      have hb0 := h0 _ (List.mem_of_getElem? hr0)
      have hno : ((o.num.toNat : Nat) : Int) = o.num := by omega
      rw [hno] at hb0
      have hout : ¬ outR (ofN l 3 o.num - o.delta) := by unfold outR; omega
      have hou := hu o (List.mem_cons_self ..)
      have hrec : recL 3 l (o :: r) = recL 3 (upd l ⟨3, o.num, ofN l 3 o.num - o.delta⟩) r := by
        rw [recL, if_pos hou, if_neg hout]
      rw [hrec]
      refine back_law h0 r (vs.set o.num.toNat (x + o.delta)) now (upd l ⟨3, o.num, ofN l 3 o.num - o.delta⟩) (fun y hy => hu y (List.mem_cons_of_mem _ hy)) (hl.upd fun hn => ⟨by simp, c1, hn, by simp only; unfold outR at hout; omega, by simp only; unfold outR at hout; omega⟩) ?_ (by rw [List.length_set]; exact hlen) ?_ ?_ e
      · intro a ha
        rcases upd_mem ha with ⟨rfl, _⟩ | ha
        · rfl
        · exact h3 a ha
      · intro y hy
        rcases List.mem_or_eq_of_mem_set hy with hy | rfl
        · exact hv y hy
        · omega
      · intro i y hy
        rw [List.getElem?_set] at hy
        rw [ofN_upd hl.asc]
        by_cases ei : o.num.toNat = i
        · subst ei
          rw [if_pos rfl, if_pos hoL] at hy
          obtain rfl := Option.some.inj hy
          rw [hr0, if_pos ⟨rfl, by simp only; omega⟩]
          simp only [Option.some.injEq]
          rw [hno]
          omega
        · rw [if_neg ei] at hy
          rw [hrel i y hy, if_neg (by simp only; omega)]
    · cases e
/-- A table holds the adjustments. -/
structure TabR (al : List ((Int × Int) × Value)) (l : List Ad) : Prop where
  nd : (al.map (·.1)).Nodup
  get : ∀ q : Int × Int, aget al q = if ofN l q.1 q.2 = 0 then none else some (.int .i64 (ofN l q.1 q.2))
theorem TabR.nil : TabR [] [] := ⟨by simp, fun q => by simp [aget, ofN_nil]⟩
theorem aset_nd {al : List ((Int × Int) × Value)} (h : (al.map (·.1)).Nodup) (n : Int × Int) (x : Value) : ((aset al n x).map (·.1)).Nodup := by
  rw [keys_aset]
  split
  · exact h
  · rename_i hn
    rw [List.nodup_append]
    exact ⟨h, by simp, fun a ha b hb => by simp at hb; subst hb; intro e; subst e; exact hn ha⟩
theorem adel_nd {al : List ((Int × Int) × Value)} (h : (al.map (·.1)).Nodup) (n : Int × Int) : ((adel al n).map (·.1)).Nodup := h.sublist (keys_adel_sub al n)
theorem TabR.set {al : List ((Int × Int) × Value)} {l : List Ad} (h : TabR al l) (hl : l.Pairwise (fun a b => klt a.key b.key)) {x : Ad} (h0 : x.n ≠ 0) : TabR (aset al (x.id, x.num) (.int .i64 x.n)) (upd l x) := by
  refine ⟨aset_nd h.nd _ _, fun q => ?_⟩
  rw [aget_aset, ofN_upd hl, h.get]
  by_cases e : q = (x.id, x.num)
  · subst e; simp [h0]
  · have e2 : ¬ (x.id = q.1 ∧ x.num = q.2) := fun hh => e (Prod.ext hh.1.symm hh.2.symm)
    rw [if_neg e, if_neg e2]
theorem TabR.del {al : List ((Int × Int) × Value)} {l : List Ad} (h : TabR al l) (hl : l.Pairwise (fun a b => klt a.key b.key)) {x : Ad} (h0 : x.n = 0) (v : Value) : TabR (adel (aset al (x.id, x.num) v) (x.id, x.num)) (upd l x) := by
  refine ⟨adel_nd (aset_nd h.nd _ _) _, fun q => ?_⟩
  rw [aget_adel (aset_nd h.nd _ _), aget_aset, ofN_upd hl, h.get]
  by_cases e : q = (x.id, x.num)
  · subst e; simp [h0]
  · have e2 : ¬ (x.id = q.1 ∧ x.num = q.2) := fun hh => e (Prod.ext hh.1.symm hh.2.symm)
    rw [if_neg e, if_neg e, if_neg e2]
theorem TabR.keys {al : List ((Int × Int) × Value)} {l : List Ad} (h : TabR al l) (hl : RightL l) : (al.map (·.1)).Perm (l.map Ad.key) := by
  rw [List.perm_ext_iff_of_nodup h.nd]
  · intro q
    have h1 : q ∈ al.map (·.1) ↔ aget al q ≠ none := by
      rw [ne_eq, aget_none]
      simp
    have h2 : q ∈ l.map Ad.key ↔ ofN l q.1 q.2 ≠ 0 := by
      constructor
      · intro hq
        obtain ⟨a, ha, rfl⟩ := List.mem_map.1 hq
        rw [ofN_mem hl.asc ha]
        exact (hl.ok a ha).2.2.1
      · intro hq
        by_cases he : ∃ a ∈ l, a.id = q.1 ∧ a.num = q.2
        · obtain ⟨a, ha, e1, e2⟩ := he
          exact List.mem_map.2 ⟨a, ha, Prod.ext e1 e2⟩
        · exact absurd (ofN_none (fun a ha e => he ⟨a, ha, e⟩)) hq
    rw [h1, h2, h.get]
    by_cases e : ofN l q.1 q.2 = 0
    · simp [e]
    · simp [e]
  · rw [List.Nodup, List.pairwise_map]
    exact hl.asc.imp (fun h e => by rw [e] at h; exact klt_irr _ h)
theorem TabR.len {al : List ((Int × Int) × Value)} {l : List Ad} (h : TabR al l) (hl : RightL l) : al.length = l.length := by
  have := (h.keys hl).length_eq
  simpa using this
/-- Keys in their order are those of the adjustments. -/
theorem TabR.sorted {al : List ((Int × Int) × Value)} {l : List Ad} (h : TabR al l) (hl : RightL l) {ks : List (Int × Int)} (hp : ks.Perm (al.map (·.1))) (hs : ks.Pairwise (fun a b => ¬ klt b a)) : ks = l.map Ad.key := by
  have h1 := hp.trans (h.keys hl)
  have hasc : (l.map Ad.key).Pairwise (fun a b => ¬ klt b a) := by
    rw [List.pairwise_map]
    exact hl.asc.imp (fun h g => klt_irr _ (klt_trans h g))
  refine List.Perm.eq_of_pairwise (le := fun a b => ¬ klt b a) (fun a b _ _ h1 h2 => ?_) hs hasc h1
  rcases klt_tri a b with g | g | g
  · exact absurd g h2
  · exact g
  · exact absurd g h1
end Go.Proofs.Ytcnocfboklhjnaa.Un
