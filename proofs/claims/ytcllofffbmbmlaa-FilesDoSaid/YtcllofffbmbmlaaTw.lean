/- A region that draws its order and holds two calls that write apart from each other: one walk serves every order. Conditions: in the laws. -/
import Derived.Test.YtcllofffbmbmlaaLib
import Derived.Deep.Quiet
import Derived.Deep.QuietTactic
import Derived.BigQuiet
namespace Go.Proofs.Ytcllofffbmbmlaa
open Go.RowKit Go.Shelf

section
variable {P : Program} {ops : Array Oper} {md : Region.Mode} {C : Array Bool → World → Prop}

/-- One step: what the operation leaves, and the class of worlds behind it. -/
def PUpon (P : Program) (C' : World → Prop) (w : World) (v : Value) : Result Next → Prop
  | .ok (.value u) w' => w' = w ∧ u = v ∧ C' w
  | .ok .skip w' => w' = w ∧ v = undef ∧ C' w
  | .ok (.enter f args) w' => w' = w ∧ Calls P f args w (fun e w'' => e = .returned v ∧ C' w'')
  | _ => False
/-- Operation k in every world of its classes. -/
def PAt (P : Program) (C : Array Bool → World → Prop) (k : Nat) (o : Oper) (a : Act) (v : Value) : Prop :=
  ∀ (L : Array Bool) (w : World), L.getD k true = false → C L w → PUpon P (C (L.setIfInBounds k true)) w v ((execOp a.eval o).run P w)
def PSkip (C : Array Bool → World → Prop) (k : Nat) : Prop := ∀ (L : Array Bool) (w : World), L.getD k true = false → C L w → C (L.setIfInBounds k true) w
def pOp (P : Program) (ops : Array Oper) (C : Array Bool → World → Prop) (i : Nat) (K : Act → Prop) (a : Act) : Prop :=
  match ops[i]? with
  | none => False
  | some o => if Region.wanted o (yielded ops a.tmps) then ∃ v, PAt P C i o a v ∧ K (a.put o.dst v) else PSkip C i ∧ K (a.put o.dst undef)
theorem pOp_mono {i : Nat} {a : Act} {K K' : Act → Prop} (h : ∀ a, K a → K' a) (hh : pOp P ops C i K a) : pOp P ops C i K' a := by
  unfold pOp at *
  split
  · rename_i ho; simp only [ho] at hh
  · rename_i o ho
    simp only [ho] at hh
    split
    · rename_i hw; simp only [hw, if_true] at hh; obtain ⟨v, h1, h2⟩ := hh; exact ⟨v, h1, h _ h2⟩
    · rename_i hw; simp only [hw] at hh; exact ⟨hh.1, h _ hh.2⟩
/-- The walk in the text's order. -/
def wpP (P : Program) (ops : Array Oper) (C : Array Bool → World → Prop) (Q : Act → Prop) : Nat → List Oper → Act → Prop
  | _, [], a => Q a
  | k, o :: rest, a => if Region.wanted o (yielded ops a.tmps) then ∃ v, PAt P C k o a v ∧ wpP P ops C Q (k + 1) rest (a.put o.dst v) else PSkip C k ∧ wpP P ops C Q (k + 1) rest (a.put o.dst undef)
def wpAnyP (P : Program) (md : Region.Mode) (ops : Array Oper) (C : Array Bool → World → Prop) (Q : Array Bool → Act → Prop) : Nat → Array Bool → Act → Prop
  | 0, listed, a => Region.ready md ops listed = [] ∧ Q listed a
  | fuel + 1, listed, a =>
    (Region.ready md ops listed = [] → Q listed a) ∧
    ∀ i ∈ Region.ready md ops listed, pOp P ops C i (wpAnyP P md ops C Q fuel (listed.setIfInBounds i true)) a
theorem ready_getD {listed : Array Bool} {i : Nat} (h : i ∈ Region.ready md ops listed) : listed.getD i true = false := (mem_ready.1 h).1
theorem wpOp_of_pOp {i : Nat} {L : Array Bool} {a : Act} {K : Act → Prop} {K' : Act → World → Prop} {Q' : Exit → Act → World → Prop} {w : World} (hL : L.getD i true = false) (hC : C L w)
    (h : ∀ a w', C (L.setIfInBounds i true) w' → K a → K' a w') (hh : pOp P ops C i K a) : wpOp P ops Q' i K' a w := by
  unfold pOp at hh
  unfold wpOp
  split
  · rename_i ho; simp only [ho] at hh
  · rename_i o ho
    simp only [ho] at hh
    split
    · rename_i hw
      simp only [hw, if_true] at hh
      left
      obtain ⟨v, h1, h2⟩ := hh
      have h3 := h1 L w hL hC
      unfold Oper.wp
      generalize (execOp a.eval o).run P w = r at *
      cases r with
      | ok n w' =>
        cases n <;> simp only [PUpon] at h3 <;> simp only [Oper.upon]
        case value u =>
          obtain ⟨e1, e2, e3⟩ := h3
          rw [e1, e2]
          exact h _ _ e3 h2
        case skip =>
          obtain ⟨e1, e2, e3⟩ := h3
          rw [e1, ← e2]
          exact h _ _ e3 h2
        case enter f args =>
          obtain ⟨e1, hc⟩ := h3
          rw [e1]
          exact hc.mono fun e w'' ⟨he, hw''⟩ => by subst he; exact h _ _ hw'' h2
      | halt x w' => simp only [PUpon] at h3
    · rename_i hw; simp only [hw] at hh; exact h _ _ (hh.1 L w hL hC) hh.2
theorem wpAny_of_P {Q : Array Bool → Act → Prop} {Q' : Exit → Act → World → Prop} (hQ : ∀ L a w, C L w → Q L a → Q' .normal a w) : ∀ (fuel : Nat) (listed : Array Bool) (a : Act) (w : World), C listed w →
    wpAnyP P md ops C Q fuel listed a → wpAny P md ops Q' fuel listed a w
  | 0, _, _, _, hw, h => ⟨h.1, hQ _ _ _ hw h.2⟩
  | fuel + 1, _, _, _, hw, h => ⟨fun h0 => hQ _ _ _ hw (h.1 h0), fun i hi => wpOp_of_pOp (ready_getD hi) hw (fun a' w' hw' => wpAny_of_P hQ fuel _ a' w' hw') (h.2 i hi)⟩
def YieldsP (P : Program) (ops : Array Oper) (C : Array Bool → World → Prop) (i : Nat) (o : Oper) (v : Value) (a : Act) : Prop :=
  (Region.wanted o (yielded ops a.tmps) = true ∧ PAt P C i o a v) ∨ (Region.wanted o (yielded ops a.tmps) = false ∧ v = undef ∧ PSkip C i)
theorem YieldsP.pOp {i : Nat} {o : Oper} {v : Value} {a : Act} (hi : ops[i]? = some o) (hy : YieldsP P ops C i o v a) {K : Act → Prop} (h : K (a.put o.dst v)) : pOp P ops C i K a := by
  unfold Ytcllofffbmbmlaa.pOp
  simp only [hi]
  rcases hy with ⟨hw, hv⟩ | ⟨hw, rfl, hs⟩
  · simp only [hw, if_true]; exact ⟨v, hv, h⟩
  · simp only [hw, Bool.false_eq_true, if_false]; exact ⟨hs, h⟩
theorem YieldsP.of_same {i : Nat} {o : Oper} {v : Value} {a a' : Act} (hy : YieldsP P ops C i o v a) (he : execOp a'.eval o = execOp a.eval o)
    (hw : Region.wanted o (yielded ops a'.tmps) = Region.wanted o (yielded ops a.tmps)) : YieldsP P ops C i o v a' := by
  unfold YieldsP PAt at *
  rw [he, hw]
  exact hy
theorem yieldsP_of_pOp {i : Nat} {o : Oper} {a : Act} {K : Act → Prop} (hi : ops[i]? = some o) (h : pOp P ops C i K a) : ∃ v, YieldsP P ops C i o v a ∧ K (a.put o.dst v) := by
  unfold pOp at h
  simp only [hi] at h
  by_cases hw : Region.wanted o (yielded ops a.tmps) = true
  · simp only [hw, if_true] at h
    obtain ⟨v, h1, h2⟩ := h
    exact ⟨v, .inl ⟨hw, h1⟩, h2⟩
  · simp only [hw] at h
    exact ⟨undef, .inr ⟨by simpa using hw, rfl, h.1⟩, h.2⟩
theorem pOp_put {i j : Nat} {oi oj : Oper} {v : Value} (hj : ops[j]? = some oj) (hap : oi.apart ops oj = true)
    (hsi : ∀ cs b, oi.op ≠ .select cs b) (hsj : ∀ cs b, oj.op ≠ .select cs b) {K : Act → Prop} {a : Act}
    (hy : YieldsP P ops C i oi v a) (h : pOp P ops C j K (a.put oi.dst v)) :
    pOp P ops C j (fun a' => YieldsP P ops C i oi v a' ∧ K (a'.put oi.dst v)) a := by
  obtain ⟨h1, h2, h3⟩ := Oper.apart_spec hap
  have keep : ∀ (a : Act), YieldsP P ops C i oi v a → ∀ u, YieldsP P ops C i oi v (a.put oj.dst u) := fun a hy u =>
    hy.of_same (execOp_put oi hsi a oj.dst u h3) (wanted_put oi a oj.dst u h3)
  unfold pOp at *
  simp only [hj] at *
  rw [wanted_put oj a oi.dst v h1] at h
  split
  · rename_i hw
    simp only [hw, if_true] at h
    obtain ⟨u, hu, hn⟩ := h
    refine ⟨u, fun L w hL hw' => ?_, keep a hy u, by rw [← Act.put_comm a v u h2]; exact hn⟩
    have := hu L w hL hw'
    rwa [execOp_put oj hsj a oi.dst v h1] at this
  · rename_i hw
    simp only [hw] at h
    exact ⟨h.1, keep a hy _, by rw [← Act.put_comm a v undef h2]; exact h.2⟩
theorem wpAnyP_first {Q : Array Bool → Act → Prop} {i : Nat} {oi : Oper} {v : Value} (hi : ops[i]? = some oi) (hsel : ∀ (j : Nat) (o : Oper) cs b, ops[j]? = some o → o.op ≠ .select cs b) :
    ∀ (fuel : Nat) (listed : Array Bool) (a : Act),
      (∀ j oj, ops[j]? = some oj → j ≠ i → listed.getD j true = false → (∀ e ∈ oj.after, Region.binds md e = true → e.on ≠ i) → oi.apart ops oj = true) →
      i ∈ Region.ready md ops listed → YieldsP P ops C i oi v a →
      wpAnyP P md ops C Q fuel (listed.setIfInBounds i true) (a.put oi.dst v) → wpAnyP P md ops C Q (fuel + 1) listed a := by
  intro fuel
  induction fuel with
  | zero =>
    intro listed a _ hr hy H
    refine ⟨fun h => (by rw [h] at hr; cases hr), fun j hj => ?_⟩
    by_cases hji : j = i
    · subst hji; exact hy.pOp hi H
    · have := ready_mono hj hji
      rw [H.1] at this
      cases this
  | succ fuel ih =>
    intro listed a hfree hr hy H
    refine ⟨fun h => (by rw [h] at hr; cases hr), fun j hj => ?_⟩
    by_cases hji : j = i
    · subst hji; exact hy.pOp hi H
    · have h1 := H.2 j (ready_mono hj hji)
      obtain ⟨hjun, oj, hoj, hall⟩ := mem_ready.1 hj
      have hnot : ∀ e ∈ oj.after, Region.binds md e = true → e.on ≠ i := fun e he hb heq => by
        have h1 := hall e he hb
        have h0 := (mem_ready.1 hr).1
        rw [heq] at h1
        rcases Nat.lt_or_ge i listed.size with h' | h'
        · simp [h'] at h0 h1; rw [h0] at h1; cases h1
        · simp [Array.getElem?_eq_none h'] at h1
      have h2 := pOp_put hoj (hfree j oj hoj hji hjun hnot) (fun cs b => hsel i oi cs b hi) (fun cs b => hsel j oj cs b hoj) hy h1
      have hfree' : ∀ k ok, ops[k]? = some ok → k ≠ i → (listed.setIfInBounds j true).getD k true = false →
          (∀ e ∈ ok.after, Region.binds md e = true → e.on ≠ i) → oi.apart ops ok = true := fun k ok hk hki hun hno => by
        refine hfree k ok hk hki ?_ hno
        by_cases hjk : j = k
        · subst hjk; exact hjun
        · rw [getD_set_ne true hjk] at hun; exact hun
      refine pOp_mono (fun a' h3 => ih (listed.setIfInBounds j true) a' hfree' (ready_mono hr (Ne.symm hji)) h3.1 ?_) h2
      rw [Array.setIfInBounds_comm _ _ hji]
      exact h3.2
/-- The bits behind all operations from k on. -/
def allFrom : Nat → Nat → Array Bool → Array Bool
  | 0, _, L => L
  | n + 1, k, L => allFrom n (k + 1) (L.setIfInBounds k true)
theorem wpAnyP_lex {Q : Array Bool → Act → Prop} (hs : Region.noSelect ops = true) : ∀ (l : List Oper) (k : Nat) (listed : Array Bool) (a : Act), (∀ j, l[j]? = ops[k + j]?) →
    Region.lexFrom md ops l.length k listed = true → wpP P ops C (Q (allFrom l.length k listed)) k l a → wpAnyP P md ops C Q l.length listed a
  | [], _, _, _, _, hB, h => ⟨by simpa [Region.lexFrom] using hB, h⟩
  | o :: l, k, listed, a, hl, hB, h => by
    have h0 : ops[k]? = some o := by simpa using (hl 0).symm
    simp only [List.length_cons, Region.lexFrom, Bool.and_eq_true] at hB
    obtain ⟨⟨hr, hf⟩, hB'⟩ := hB
    have hst : pOp P ops C k (wpP P ops C (Q (allFrom l.length (k + 1) (listed.setIfInBounds k true))) (k + 1) l) a := by unfold pOp; simp only [h0]; exact h
    obtain ⟨v, hy, hK⟩ := yieldsP_of_pOp h0 hst
    exact wpAnyP_first h0 (Region.noSelect_spec hs) l.length listed a (Region.free_spec h0 hf) (by simpa using hr) hy
      (wpAnyP_lex hs l (k + 1) _ _ (fun j => by have := hl (j + 1); simpa [Nat.add_assoc, Nat.add_comm 1 j] using this) hB' hK)
end

section
variable {P : Program}
/-- The two calls' bits. -/
def twoC (D : Bool → Bool → World → Prop) (i1 i2 : Nat) (L : Array Bool) (w : World) : Prop := D (L.getD i1 true) (L.getD i2 true) w
/-- Operation k: the first call, the second call, or any other one. -/
def TwoAt (P : Program) (D : Bool → Bool → World → Prop) (i1 i2 k : Nat) (o : Oper) (a : Act) (v : Value) : Prop :=
  if k = i1 then ∀ b w, D false b w → PUpon P (D true b) w v ((execOp a.eval o).run P w)
  else if k = i2 then ∀ b w, D b false w → PUpon P (D b true) w v ((execOp a.eval o).run P w)
  else ∀ b b' w, D b b' w → PUpon P (D b b') w v ((execOp a.eval o).run P w)
theorem getD_set_same (L : Array Bool) (k : Nat) : (L.setIfInBounds k true).getD k true = true := by
  simp only [Array.getD_eq_getD_getElem?, Array.getElem?_setIfInBounds]
  by_cases h : k < L.size <;> simp [h]
theorem pat_of_two {D : Bool → Bool → World → Prop} {i1 i2 k : Nat} (hne : i1 ≠ i2) {o : Oper} {a : Act} {v : Value} (h : TwoAt P D i1 i2 k o a v) : PAt P (twoC D i1 i2) k o a v := by
  intro L w hL hC
  unfold TwoAt at h
  unfold twoC at hC
  split at h
  · rename_i e
    subst e
    rw [hL] at hC
    have := h _ w hC
    have e1 : (fun w' => twoC D k i2 (L.setIfInBounds k true) w') = D true (L.getD i2 true) := by
      funext w'; unfold twoC; rw [getD_set_same, getD_set_ne true hne]
    show PUpon P (fun w' => twoC D k i2 (L.setIfInBounds k true) w') w v _
    rw [e1]; exact this
  · rename_i e1
    split at h
    · rename_i e
      subst e
      rw [hL] at hC
      have := h _ w hC
      have e2 : (fun w' => twoC D i1 k (L.setIfInBounds k true) w') = D (L.getD i1 true) true := by
        funext w'; unfold twoC; rw [getD_set_same, getD_set_ne true (Ne.symm hne)]
      show PUpon P (fun w' => twoC D i1 k (L.setIfInBounds k true) w') w v _
      rw [e2]; exact this
    · rename_i e2
      have := h _ _ w hC
      have e3 : (fun w' => twoC D i1 i2 (L.setIfInBounds k true) w') = D (L.getD i1 true) (L.getD i2 true) := by
        funext w'; unfold twoC; rw [getD_set_ne true e1, getD_set_ne true e2]
      show PUpon P (fun w' => twoC D i1 i2 (L.setIfInBounds k true) w') w v _
      rw [e3]; exact this
/-- The walk of such a region; every operation is wanted. -/
def wpTwo (P : Program) (ops : Array Oper) (D : Bool → Bool → World → Prop) (i1 i2 : Nat) (Q : Act → Prop) : Nat → List Oper → Act → Prop
  | _, [], a => Q a
  | k, o :: rest, a => Region.wanted o (yielded ops a.tmps) = true ∧ ∃ v, TwoAt P D i1 i2 k o a v ∧ wpTwo P ops D i1 i2 Q (k + 1) rest (a.put o.dst v)
theorem wpP_of_two {ops : Array Oper} {D : Bool → Bool → World → Prop} {i1 i2 : Nat} (hne : i1 ≠ i2) {Q : Act → Prop} : ∀ (l : List Oper) (k : Nat) (a : Act), wpTwo P ops D i1 i2 Q k l a → wpP P ops (twoC D i1 i2) Q k l a
  | [], _, _, h => h
  | o :: l, k, a, ⟨hw, v, h1, h2⟩ => by
    unfold wpP
    rw [if_pos hw]
    exact ⟨v, pat_of_two hne h1, wpP_of_two hne l (k + 1) _ h2⟩
theorem wpTwo_step {ops : Array Oper} {D : Bool → Bool → World → Prop} {i1 i2 k : Nat} {Q : Act → Prop} {a : Act} {o : Oper} {rest : List Oper} (hw : Region.wanted o (yielded ops a.tmps) = true) (v : Value) (h1 : TwoAt P D i1 i2 k o a v)
    (h2 : wpTwo P ops D i1 i2 Q (k + 1) rest (a.put o.dst v)) : wpTwo P ops D i1 i2 Q k (o :: rest) a := ⟨hw, v, h1, h2⟩
theorem wpTwo_stepK {ops : Array Oper} {D : Bool → Bool → World → Prop} {i1 i2 k : Nat} {Q : Act → Prop} {a : Act} {o : Oper} {rest : List Oper}
    (h : ∀ K : Act → Prop, (∀ a, wpTwo P ops D i1 i2 Q (k + 1) rest a → K a) → Region.wanted o (yielded ops a.tmps) = true ∧ ∃ v, TwoAt P D i1 i2 k o a v ∧ K (a.put o.dst v)) : wpTwo P ops D i1 i2 Q k (o :: rest) a := h _ (fun _ h => h)
theorem twoAt_other {D : Bool → Bool → World → Prop} {i1 i2 k : Nat} (h1 : (k == i1) = false) (h2 : (k == i2) = false) {o : Oper} {a : Act} {v : Value}
    (h : ∀ b b' w, D b b' w → PUpon P (D b b') w v ((execOp a.eval o).run P w)) : TwoAt P D i1 i2 k o a v := by
  unfold TwoAt; rw [if_neg (by simpa using h1), if_neg (by simpa using h2)]; exact h
theorem twoAt_one {D : Bool → Bool → World → Prop} {i1 i2 : Nat} {o : Oper} {a : Act} {v : Value}
    (h : ∀ b w, D false b w → PUpon P (D true b) w v ((execOp a.eval o).run P w)) : TwoAt P D i1 i2 i1 o a v := by
  unfold TwoAt; rw [if_pos rfl]; exact h
theorem twoAt_two {D : Bool → Bool → World → Prop} {i1 i2 : Nat} (hne : (i2 == i1) = false) {o : Oper} {a : Act} {v : Value}
    (h : ∀ b w, D b false w → PUpon P (D b true) w v ((execOp a.eval o).run P w)) : TwoAt P D i1 i2 i2 o a v := by
  unfold TwoAt; rw [if_neg (by simpa using hne), if_pos rfl]; exact h
/-- **One walk in the text's order serves every order.** -/
theorem wp_region_two {id : Nat} {Q : Exit → Act → World → Prop} {a : Act} {w : World} {l : List Oper} (D : Bool → Bool → World → Prop) (i1 i2 : Nat) (hm : P.follows .mixedOrders = true) (hB : Region.lexB .any l.toArray = true) (hne : i1 ≠ i2)
    (hf1 : (allFrom l.length 0 (Array.replicate l.toArray.size false)).getD i1 true = true) (hf2 : (allFrom l.length 0 (Array.replicate l.toArray.size false)).getD i2 true = true)
    (hs1 : (Array.replicate l.toArray.size false).getD i1 true = false) (hs2 : (Array.replicate l.toArray.size false).getD i2 true = false) (hD : D false false w.drew)
    (h : wpTwo P l.toArray D i1 i2 (fun a' => ∀ w', D true true w' → Q .normal a' w') 0 l a) : (Code.region id l.toArray true).wp P Q a w := by
  simp only [Region.lexB, Bool.and_eq_true] at hB
  refine wp_region_any hm (wpAny_of_P (C := twoC D i1 i2) (Q := fun L a' => ∀ w', twoC D i1 i2 L w' → Q .normal a' w') (fun L _ w' hw' h => h w' hw') _ _ _ _ ?_ ?_)
  · unfold twoC; rw [hs1, hs2]; exact hD
  · have := wpAnyP_lex (P := P) (C := twoC D i1 i2) (md := .any) (Q := fun L a' => ∀ w', twoC D i1 i2 L w' → Q .normal a' w') hB.1 l 0 (Array.replicate l.toArray.size false) a (by simp) (by simpa using hB.2) (by
      refine wpP_of_two hne l 0 a ?_
      have e : (fun a' => ∀ w', twoC D i1 i2 (allFrom l.length 0 (Array.replicate l.toArray.size false)) w' → Q .normal a' w') = (fun a' => ∀ w', D true true w' → Q .normal a' w') := by
        funext a'; unfold twoC; rw [hf1, hf2]
      rw [e]; exact h)
    simpa using this
end
end Go.Proofs.Ytcllofffbmbmlaa
