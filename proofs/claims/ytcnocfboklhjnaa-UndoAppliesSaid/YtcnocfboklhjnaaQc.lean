/- undo: the reference's list with another adjustment. Conditions: the list is in its order, and not too long. -/
import Derived.Test.YtcnocfboklhjnaaQb
import Derived.Test.YtcnocfboklhjnaaTr
namespace Go.Proofs.Ytcnocfboklhjnaa
open Go.RowKit Go.Shelf
attribute [local go_sem] Oper.semAt_some

/-- What is still to come of a list with another one. -/
def wrest : List Tri → Tri → Bool → List Tri
  | [], x, d => if d then [] else [x]
  | a :: l, x, d => (if d = false ∧ ¬ Un.klt a.key x.key then [x] else []) ++ ((if a.key = x.key then [] else [a]) ++ wrest l x (d || !decide (Un.klt a.key x.key)))
theorem wrest_done (l : List Tri) (x : Tri) (h : ∀ a ∈ l, ¬ a.key = x.key) : wrest l x true = l := by
  induction l with
  | nil => rfl
  | cons a l ih =>
    have h1 := h a (List.mem_cons_self ..)
    rw [wrest, if_neg (by simp), if_neg h1, Bool.true_or, ih (fun b hb => h b (List.mem_cons_of_mem _ hb))]
    rfl
theorem wrest_upd {l : List Tri} (h : l.Pairwise (fun a b => Un.klt a.key b.key)) (x : Tri) : wrest l x (decide (x.n = 0)) = Un.upd l x := by
  induction l with
  | nil =>
    unfold wrest Un.upd
    by_cases h0 : x.n = 0 <;> simp [h0]
  | cons a l ih =>
    rw [List.pairwise_cons] at h
    have ih := ih h.2
    rw [wrest, Un.upd]
    by_cases h1 : Un.klt a.key x.key
    · have hne : ¬ a.key = x.key := fun e => by rw [e] at h1; exact Un.klt_irr _ h1
      rw [if_neg (fun hh => hh.2 h1), if_neg hne, if_pos h1, decide_eq_true h1, Bool.not_true, Bool.or_false, ih]
      rfl
    · have hbig : ∀ b ∈ l, ¬ b.key = x.key := fun b hb e => by
        have := h.1 b hb
        rw [e] at this
        exact h1 this
      rw [if_neg h1, decide_eq_false h1, Bool.not_false, Bool.or_true, wrest_done l x hbig]
      by_cases h2 : a.key = x.key
      · by_cases h0 : x.n = 0
        · simp [h2, h0, Un.klt_irr]
        · simp [h2, h0, Un.klt_irr]
      · by_cases h0 : x.n = 0
        · simp [h2, h0, h1]
        · simp [h2, h0, h1]
theorem wrest_len (l : List Tri) (x : Tri) (d : Bool) : (wrest l x d).length ≤ l.length + 1 ∧ (d = true → (wrest l x d).length ≤ l.length) := by
  induction l generalizing d with
  | nil => unfold wrest; cases d <;> simp
  | cons a l ih =>
    rw [wrest]
    by_cases hk : Un.klt a.key x.key
    · have h := ih (d || !decide (Un.klt a.key x.key))
      rw [decide_eq_true hk] at h ⊢
      simp only [Bool.not_true, Bool.or_false] at h ⊢
      rw [if_neg (fun hh => hh.2 hk)]
      by_cases he : a.key = x.key
      · rw [if_pos he]
        simp only [List.nil_append, List.length_cons]
        exact ⟨by omega, fun hd => by have := h.2 (by simpa using hd); omega⟩
      · rw [if_neg he]
        simp only [List.nil_append, List.length_append, List.length_cons, List.length_nil]
        exact ⟨by omega, fun hd => by have := h.2 (by simpa using hd); omega⟩
    · have h := ih (d || !decide (Un.klt a.key x.key))
      rw [decide_eq_false hk] at h ⊢
      simp only [Bool.not_false, Bool.or_true] at h ⊢
      have h2 := h.2 trivial
      cases d with
      | true =>
        rw [if_neg (by simp)]
        by_cases he : a.key = x.key
        · rw [if_pos he]
          simp only [List.nil_append, List.length_cons]
          exact ⟨by omega, fun _ => by omega⟩
        · rw [if_neg he]
          simp only [List.nil_append, List.length_append, List.length_cons, List.length_nil]
          exact ⟨by omega, fun _ => by omega⟩
      | false =>
        rw [if_pos ⟨rfl, hk⟩]
        by_cases he : a.key = x.key
        · rw [if_pos he]
          simp only [List.nil_append, List.length_append, List.length_cons, List.length_nil]
          exact ⟨by omega, fun hd => by cases hd⟩
        · rw [if_neg he]
          simp only [List.length_append, List.length_cons, List.length_nil]
          exact ⟨by omega, fun hd => by cases hd⟩
/-- One is appended. -/
theorem app_tri {w : World} {base : Nat} {v : Value} {l : List Tri} (h : w.ownsRow base 45 3 v l.length (flat3 l)) (hl : l.length ≤ 1000) (hb : base ≤ w.heap.size) (t : Tri) :
    ∃ v' w', (Builtin.append_ #[22, 22] 22 #[v, .slice (some ⟨w.heap.size, 0, none⟩) 1 1]).run Try.prog (w.alloc (.cells #[.int .i64 t.id, .int .i64 t.num, .int .i64 t.n] 45)) = .ok v' w' ∧
      w'.ownsRow base 45 3 v' (l ++ [t]).length (flat3 (l ++ [t])) ∧ Same (fun b => base ≤ b) w w' := by
  obtain ⟨i45, hi45, hz1, hz2, hz3⟩ := info45
  have hs1 : Same (fun _ => False) w (w.alloc (.cells #[.int .i64 t.id, .int .i64 t.num, .int .i64 t.n] 45)) := same_alloc _
  have o1 := ownsRow_same h hs1 (fun _ _ h => h)
  obtain ⟨v', w', hrun, hown, hsame, -⟩ := run_append_same (P := Try.prog) (w.alloc (.cells #[.int .i64 t.id, .int .i64 t.num, .int .i64 t.n] 45)) base 22 22 45 i45 (.agg #[.int .i64 0, .int .i64 0, .int .i64 0]) 3 24 Try.underlying22 hi45 hz1 hz2 hz3 rfl (by decide) _ l.length _ o1
    ⟨w.heap.size, 0, none⟩ 1 1 [.int .i64 t.id, .int .i64 t.num, .int .i64 t.n] (by rfl) (fun j u hu => cells_new rfl hu) (by simp [Value.oneCell']) (by unfold maxLen; omega) (by omega) (by simp; omega)
  refine ⟨v', w', hrun, ?_, (hs1.mono (T := fun b => base ≤ b) (fun _ _ h => h.elim)).trans (hsame.mono (fun b _ hbk => (ownsRow_shape h hbk).1))⟩
  rw [List.length_append, flat3_append]
  exact hown
set_option maxHeartbeats 3200000 in
set_option maxRecDepth 100000 in
theorem with33 (w : World) (a : Option Addr) (c : Nat) (l : List Tri) (x : Tri) (hr : TriR w a l) (hlen : l.length ≤ 200) (ha : ∀ y, a = some y → y.block < w.heap.size) :
    Calls Try.prog 33 #[.slice a l.length c, .agg #[.int .i64 x.id, .int .i64 x.num, .int .i64 x.n]] w fun e w' => ∃ v, e = .returned v ∧ w'.ownsRow w.heap.size 45 3 v (wrest l x (decide (x.n = 0))).length (flat3 (wrest l x (decide (x.n = 0)))) ∧ Same (fun _ => False) w w' := by
  obtain ⟨R, hRd⟩ : ∃ R, R = wrest l x (decide (x.n = 0)) := ⟨_, rfl⟩
  have hRl := (wrest_len l x (decide (x.n = 0))).1
  rw [← hRd] at hRl ⊢
  have HRD := Lib.hid hRd
  have HR := Lib.hid hr
  obtain ⟨n, hn⟩ : ∃ n, n = l.length := ⟨_, rfl⟩
  rw [← hn] at hRl hlen ⊢
  have HN := Lib.hid hn
  obtain ⟨W0, hW0⟩ : ∃ W0, W0 = w.alloc (.cells #[.int .i64 x.id, .int .i64 x.num, .int .i64 x.n] 45) := ⟨_, rfl⟩
  have hs0 : Same (fun _ => False) w W0 := by rw [hW0]; exact same_alloc _
  have hz0 : W0.heap.size = w.heap.size + 1 := by rw [hW0]; simp
  have b0 : W0.cell? ⟨w.heap.size, 0, none⟩ = some (.int .i64 x.id) := by rw [hW0]; simp [go_sem]
  have b1 : W0.cell? ⟨w.heap.size, 1, none⟩ = some (.int .i64 x.num) := by rw [hW0]; simp [go_sem]
  have b2 : W0.cell? ⟨w.heap.size, 2, none⟩ = some (.int .i64 x.n) := by rw [hW0]; simp [go_sem]
  have H0 := Lib.hid (And.intro hs0 (And.intro b0 (And.intro b1 b2)))
  obtain ⟨d0, hd0⟩ : ∃ d0, d0 = decide (x.n = 0) := ⟨_, rfl⟩
  have hd0' : (x.n == 0) = d0 := by rw [hd0]; by_cases h : x.n = 0 <;> simp [h]
  have HD0 := Lib.hid hd0
  clear hr hn hRd hs0 hd0
  go_enter Try.func33, Try.ntmps33
  go_wp2
  rw [← hW0]
  clear hW0
  go_loopw [5, 6, 7] (fun v5 v6 v7 wx => ∃ (i : Nat) (W : World) (vv : Value) (d : Bool) (out : List Tri), W = wx ∧ vv = v5 ∧ v6 = .bool d ∧ i ≤ n ∧ v7 = .int .i64 i ∧ Hid (out ++ wrest (l.drop i) x d = R ∧ W.ownsRow (w.heap.size + 1) 45 3 vv out.length (flat3 out) ∧ Same (fun b => w.heap.size + 1 ≤ b) W0 W)) (fun _ _ v7 _ => n - (intOf v7).toNat)
  case atStart => exact ⟨0, _, _, d0, [], rfl, rfl, rfl, by omega, rfl, Lib.hid ⟨by rw [HRD.out, HD0.out]; rfl, World.ownsRow_nil .., Same.refl _ _⟩⟩
  case round =>
    obtain ⟨i, W, v5, d, out, hW, hv5, rfl, hi, rfl, HI⟩ := hrel
    subst hW
    subst hv5
    have hzw := HI.out.2.2.size
    have hol : out.length ≤ 1000 := by have h := congrArg List.length HI.out.1; simp only [List.length_append] at h; omega
    by_cases hin : i < n
    · have hii : (i : Int) < n := by omega
      obtain ⟨t, ht⟩ : ∃ t, l[i]? = some t := ⟨_, List.getElem?_eq_getElem (by have := HN.out; omega)⟩
      obtain ⟨ya, rfl, hx⟩ := HR.out i t ht
      have hyb := ha ya rfl
      have hx2 := (hx.same H0.out.1 (fun h => h)).same HI.out.2.2 (by rw [(add_off ya _).2]; omega)
      have x0 := hx2.c0
      have x1 := hx2.c1
      have x2 := hx2.c2
      have c0 := HI.out.2.2.cell b0 (by simp)
      have c1 := HI.out.2.2.cell b1 (by simp)
      have c2 := HI.out.2.2.cell b2 (by simp)
      have HC := Lib.hid (And.intro x0 (And.intro x1 (And.intro x2 (And.intro c0 (And.intro c1 c2)))))
      have HYO : Hid ((ya.add (i * 3)).block = ya.block) := Lib.hid (add_off ya _).2
      have EQ0 : Hid (out ++ wrest (t :: l.drop (i + 1)) x d = R) := Lib.hid (by rw [← drop_cons ht]; exact HI.out.1)
      clear hx hx2 ht b0 b1 b2
      cases d with
      | true =>
        have EQ1 : Hid (out ++ ((if t.key = x.key then [] else [t]) ++ wrest (l.drop (i + 1)) x true) = R) := Lib.hid (by
          have h := EQ0.out
          rw [wrest, if_neg (by simp), Bool.true_or, List.nil_append] at h
          exact h)
        clear EQ0
        go_wp2
        go_quiet (fail)
        obtain ⟨W1, hW1⟩ : ∃ W1, W1 = W.drewN nq := ⟨_, rfl⟩
        have HC1 : Hid (W1.cell? (ya.add (i * 3)) = some (.int .i64 t.id) ∧ W1.cell? ⟨(ya.add (i * 3)).block, (ya.add (i * 3)).off + 1, none⟩ = some (.int .i64 t.num) ∧ W1.cell? ⟨(ya.add (i * 3)).block, (ya.add (i * 3)).off + 2, none⟩ = some (.int .i64 t.n) ∧ W1.cell? ⟨w.heap.size, 0, none⟩ = some (.int .i64 x.id) ∧ W1.cell? ⟨w.heap.size, 1, none⟩ = some (.int .i64 x.num) ∧ W1.cell? ⟨w.heap.size, 2, none⟩ = some (.int .i64 x.n)) := Lib.hid (by rw [hW1]; simpa using HC.out)
        have HO1 : Hid (W1.ownsRow (w.heap.size + 1) 45 3 v5 out.length (flat3 out)) := Lib.hid (by rw [hW1]; exact ownsRow_same HI.out.2.1 ((Same.refl (fun _ => False) W).drewN nq) (fun _ _ h => h))
        have HS1 : Hid (Same (fun b => w.heap.size + 1 ≤ b) W0 W1) := Lib.hid (by rw [hW1]; exact HI.out.2.2.drewN nq)
        rw [← hW1]
        clear hW1 x0 x1 x2 c0 c1 c2
        obtain ⟨X0, X1, X2, B0, B1, B2⟩ := HC1.out
        have hz1 := HS1.out.size
        by_cases h1 : t.id = x.id
        · have f1 : (t.id == x.id) = true := by simpa using h1
          have g1 : (t.id != x.id) = false := by simpa using h1
          by_cases h2 : t.num = x.num
          · have f2 : (t.num == x.num) = true := by simpa using h2
            have g2 : (t.num != x.num) = false := by simpa using h2
            have EQ2 : Hid (out ++ wrest (l.drop (i + 1)) x true = R) := Lib.hid (by have h := EQ1.out; rw [if_pos (Prod.ext h1 h2), List.nil_append] at h; exact h)
            clear h1 h2
            go_wp2
            go_quiet (fail)
            go_wp2
            go_round
            case rel => exact ⟨i + 1, _, _, true, out, rfl, rfl, rfl, by omega, by go_num, Lib.hid ⟨EQ2.out, ownsRow_same HO1.out ((Same.refl (fun _ => False) W1).drewN nq) (fun _ _ h => h), HS1.out.drewN nq⟩⟩
            case measure => simp [intOf]; omega
          · have f2 : (t.num == x.num) = false := by simpa using h2
            have g2 : (t.num != x.num) = true := by simpa using h2
            have HNE : Hid (¬ t.key = x.key) := Lib.hid (fun e => h2 (Prod.mk.inj e).2)
            clear h1 h2
            have EQ2 : Hid ((out ++ [t]) ++ wrest (l.drop (i + 1)) x true = R) := Lib.hid (by have h := EQ1.out; rw [if_neg HNE.out] at h; rw [← h, List.append_assoc])
            have hl2 : (out).length ≤ 1000 := by have h := congrArg List.length EQ2.out; simp only [List.length_append, List.length_cons, List.length_nil] at h ⊢; omega
            go_wp2
            go_quiet (fail)
            obtain ⟨v7, w7, hrun7, ho7, hs7⟩ := app_tri (ownsRow_same HO1.out ((Same.refl (fun _ => False) W1).drewN nq) (fun _ _ h => h)) hl2 (show w.heap.size + 1 ≤ (W1.drewN nq).heap.size by show w.heap.size + 1 ≤ W1.heap.size; omega) t
            have H7 := Lib.hid (And.intro ho7 ((HS1.out.drewN nq).trans hs7))
            have HRUN7 := Lib.hid hrun7
            clear hrun7 ho7 hs7
            go_wp2_with (at_builtin; refine wpList_append_run rfl (.tmp 50) (.tmp 55) 22 rfl _ _ rfl rfl HRUN7.out ?_)
            go_round
            case rel => exact ⟨i + 1, w7, v7, true, out ++ [t], rfl, rfl, rfl, by omega, by go_num, Lib.hid ⟨EQ2.out, H7.out.1, H7.out.2⟩⟩
            case measure => simp [intOf]; omega
        · have f1 : (t.id == x.id) = false := by simpa using h1
          have g1 : (t.id != x.id) = true := by simpa using h1
          have HNE : Hid (¬ t.key = x.key) := Lib.hid (fun e => h1 (Prod.mk.inj e).1)
          clear h1
          have EQ2 : Hid ((out ++ [t]) ++ wrest (l.drop (i + 1)) x true = R) := Lib.hid (by have h := EQ1.out; rw [if_neg HNE.out] at h; rw [← h, List.append_assoc])
          have hl2 : (out).length ≤ 1000 := by have h := congrArg List.length EQ2.out; simp only [List.length_append, List.length_cons, List.length_nil] at h ⊢; omega
          go_wp2
          go_quiet (fail)
          obtain ⟨v7, w7, hrun7, ho7, hs7⟩ := app_tri (ownsRow_same HO1.out ((Same.refl (fun _ => False) W1).drewN nq) (fun _ _ h => h)) hl2 (show w.heap.size + 1 ≤ (W1.drewN nq).heap.size by show w.heap.size + 1 ≤ W1.heap.size; omega) t
          have H7 := Lib.hid (And.intro ho7 ((HS1.out.drewN nq).trans hs7))
          have HRUN7 := Lib.hid hrun7
          clear hrun7 ho7 hs7
          go_wp2_with (at_builtin; refine wpList_append_run rfl (.tmp 50) (.tmp 55) 22 rfl _ _ rfl rfl HRUN7.out ?_)
          go_round
          case rel => exact ⟨i + 1, w7, v7, true, out ++ [t], rfl, rfl, rfl, by omega, by go_num, Lib.hid ⟨EQ2.out, H7.out.1, H7.out.2⟩⟩
          case measure => simp [intOf]; omega
      | false =>
        have hah := ahead_any W.drew t x
        have hs5' : Same (fun _ => False) W W.drew := (Same.refl _ W).drew
        have HS5 := Lib.hid hs5'
        clear hs5'
        by_cases hlt : Un.klt t.key x.key
        · rw [decide_eq_true hlt] at hah
          have EQ1 : Hid (out ++ ((if t.key = x.key then [] else [t]) ++ wrest (l.drop (i + 1)) x false) = R) := Lib.hid (by
            have h := EQ0.out
            rw [wrest, if_neg (fun hh => hh.2 hlt), decide_eq_true hlt, List.nil_append] at h
            exact h)
          clear EQ0 hlt
          go_wp2
          go_still_tail 8, (by kernel_rfl)
          go_wp2_with fail
          refine hah.mono ?_
          rintro e W1 ⟨rfl, hs1⟩
          have hsW := HS5.out.trans hs1
          have HC1 : Hid (W1.cell? (ya.add (i * 3)) = some (.int .i64 t.id) ∧ W1.cell? ⟨(ya.add (i * 3)).block, (ya.add (i * 3)).off + 1, none⟩ = some (.int .i64 t.num) ∧ W1.cell? ⟨(ya.add (i * 3)).block, (ya.add (i * 3)).off + 2, none⟩ = some (.int .i64 t.n) ∧ W1.cell? ⟨w.heap.size, 0, none⟩ = some (.int .i64 x.id) ∧ W1.cell? ⟨w.heap.size, 1, none⟩ = some (.int .i64 x.num) ∧ W1.cell? ⟨w.heap.size, 2, none⟩ = some (.int .i64 x.n)) := Lib.hid ⟨hsW.cell x0 (fun h => h), hsW.cell x1 (fun h => h), hsW.cell x2 (fun h => h), hsW.cell c0 (fun h => h), hsW.cell c1 (fun h => h), hsW.cell c2 (fun h => h)⟩
          have HO1 : Hid (W1.ownsRow (w.heap.size + 1) 45 3 v5 out.length (flat3 out)) := Lib.hid (ownsRow_same HI.out.2.1 hsW (fun _ _ h => h))
          have HS1 : Hid (Same (fun b => w.heap.size + 1 ≤ b) W0 W1) := Lib.hid (HI.out.2.2.trans (hsW.mono (fun _ _ h => h.elim)))
          clear hah hs1 hsW x0 x1 x2 c0 c1 c2
          obtain ⟨X0, X1, X2, B0, B1, B2⟩ := HC1.out
          have hz1 := HS1.out.size
          by_cases h1 : t.id = x.id
          · have f1 : (t.id == x.id) = true := by simpa using h1
            have g1 : (t.id != x.id) = false := by simpa using h1
            by_cases h2 : t.num = x.num
            · have f2 : (t.num == x.num) = true := by simpa using h2
              have g2 : (t.num != x.num) = false := by simpa using h2
              have EQ2 : Hid (out ++ wrest (l.drop (i + 1)) x false = R) := Lib.hid (by have h := EQ1.out; rw [if_pos (Prod.ext h1 h2), List.nil_append] at h; exact h)
              clear h1 h2
              go_wp2
              go_quiet (fail)
              go_wp2
              go_round
              case rel => exact ⟨i + 1, _, _, false, out, rfl, rfl, rfl, by omega, by go_num, Lib.hid ⟨EQ2.out, ownsRow_same HO1.out ((Same.refl (fun _ => False) W1).drewN nq) (fun _ _ h => h), HS1.out.drewN nq⟩⟩
              case measure => simp [intOf]; omega
            · have f2 : (t.num == x.num) = false := by simpa using h2
              have g2 : (t.num != x.num) = true := by simpa using h2
              have HNE : Hid (¬ t.key = x.key) := Lib.hid (fun e => h2 (Prod.mk.inj e).2)
              clear h1 h2
              have EQ2 : Hid ((out ++ [t]) ++ wrest (l.drop (i + 1)) x false = R) := Lib.hid (by have h := EQ1.out; rw [if_neg HNE.out] at h; rw [← h, List.append_assoc])
              have hl2 : (out).length ≤ 1000 := by have h := congrArg List.length EQ2.out; simp only [List.length_append, List.length_cons, List.length_nil] at h ⊢; omega
              go_wp2
              go_quiet (fail)
              obtain ⟨v7, w7, hrun7, ho7, hs7⟩ := app_tri (ownsRow_same HO1.out ((Same.refl (fun _ => False) W1).drewN nq) (fun _ _ h => h)) hl2 (show w.heap.size + 1 ≤ (W1.drewN nq).heap.size by show w.heap.size + 1 ≤ W1.heap.size; omega) t
              have H7 := Lib.hid (And.intro ho7 ((HS1.out.drewN nq).trans hs7))
              have HRUN7 := Lib.hid hrun7
              clear hrun7 ho7 hs7
              go_wp2_with (at_builtin; refine wpList_append_run rfl (.tmp 50) (.tmp 55) 22 rfl _ _ rfl rfl HRUN7.out ?_)
              go_round
              case rel => exact ⟨i + 1, w7, v7, false, out ++ [t], rfl, rfl, rfl, by omega, by go_num, Lib.hid ⟨EQ2.out, H7.out.1, H7.out.2⟩⟩
              case measure => simp [intOf]; omega
          · have f1 : (t.id == x.id) = false := by simpa using h1
            have g1 : (t.id != x.id) = true := by simpa using h1
            have HNE : Hid (¬ t.key = x.key) := Lib.hid (fun e => h1 (Prod.mk.inj e).1)
            clear h1
            have EQ2 : Hid ((out ++ [t]) ++ wrest (l.drop (i + 1)) x false = R) := Lib.hid (by have h := EQ1.out; rw [if_neg HNE.out] at h; rw [← h, List.append_assoc])
            have hl2 : (out).length ≤ 1000 := by have h := congrArg List.length EQ2.out; simp only [List.length_append, List.length_cons, List.length_nil] at h ⊢; omega
            go_wp2
            go_quiet (fail)
            obtain ⟨v7, w7, hrun7, ho7, hs7⟩ := app_tri (ownsRow_same HO1.out ((Same.refl (fun _ => False) W1).drewN nq) (fun _ _ h => h)) hl2 (show w.heap.size + 1 ≤ (W1.drewN nq).heap.size by show w.heap.size + 1 ≤ W1.heap.size; omega) t
            have H7 := Lib.hid (And.intro ho7 ((HS1.out.drewN nq).trans hs7))
            have HRUN7 := Lib.hid hrun7
            clear hrun7 ho7 hs7
            go_wp2_with (at_builtin; refine wpList_append_run rfl (.tmp 50) (.tmp 55) 22 rfl _ _ rfl rfl HRUN7.out ?_)
            go_round
            case rel => exact ⟨i + 1, w7, v7, false, out ++ [t], rfl, rfl, rfl, by omega, by go_num, Lib.hid ⟨EQ2.out, H7.out.1, H7.out.2⟩⟩
            case measure => simp [intOf]; omega
        · rw [decide_eq_false hlt] at hah
          have EQ1 : Hid ((out ++ [x]) ++ ((if t.key = x.key then [] else [t]) ++ wrest (l.drop (i + 1)) x true) = R) := Lib.hid (by
            have h := EQ0.out
            rw [wrest, if_pos ⟨rfl, hlt⟩, decide_eq_false hlt] at h
            rw [List.append_assoc]
            exact h)
          clear EQ0 hlt
          go_wp2
          go_still_tail 8, (by kernel_rfl)
          go_wp2_with fail
          refine hah.mono ?_
          rintro e w5 ⟨rfl, hs1⟩
          have hsW := HS5.out.trans hs1
          have y0 := hsW.cell c0 (fun h => h)
          have y1 := hsW.cell c1 (fun h => h)
          have y2 := hsW.cell c2 (fun h => h)
          obtain ⟨v6, W1, hrun6, ho6, hs6⟩ := app_tri (ownsRow_same HI.out.2.1 hsW (fun _ _ h => h)) hol (show w.heap.size + 1 ≤ w5.heap.size by have := hsW.size; omega) x
          have HC1 : Hid (W1.cell? (ya.add (i * 3)) = some (.int .i64 t.id) ∧ W1.cell? ⟨(ya.add (i * 3)).block, (ya.add (i * 3)).off + 1, none⟩ = some (.int .i64 t.num) ∧ W1.cell? ⟨(ya.add (i * 3)).block, (ya.add (i * 3)).off + 2, none⟩ = some (.int .i64 t.n) ∧ W1.cell? ⟨w.heap.size, 0, none⟩ = some (.int .i64 x.id) ∧ W1.cell? ⟨w.heap.size, 1, none⟩ = some (.int .i64 x.num) ∧ W1.cell? ⟨w.heap.size, 2, none⟩ = some (.int .i64 x.n)) := Lib.hid ⟨hs6.cell (hsW.cell x0 (fun h => h)) (by show ¬ w.heap.size + 1 ≤ (ya.add (i * 3)).block; have := HYO.out; omega), hs6.cell (hsW.cell x1 (fun h => h)) (by show ¬ w.heap.size + 1 ≤ (ya.add (i * 3)).block; have := HYO.out; omega), hs6.cell (hsW.cell x2 (fun h => h)) (by show ¬ w.heap.size + 1 ≤ (ya.add (i * 3)).block; have := HYO.out; omega), hs6.cell y0 (by simp), hs6.cell y1 (by simp), hs6.cell y2 (by simp)⟩
          have HO1 : Hid (W1.ownsRow (w.heap.size + 1) 45 3 v6 (out ++ [x]).length (flat3 (out ++ [x]))) := Lib.hid ho6
          have HS1 : Hid (Same (fun b => w.heap.size + 1 ≤ b) W0 W1) := Lib.hid ((HI.out.2.2.trans (hsW.mono (fun _ _ h => h.elim))).trans hs6)
          have HRUN6 := Lib.hid hrun6
          clear hah hs1 hsW x0 x1 x2 c0 c1 c2 hrun6 ho6 hs6
          go_wp2_with (at_builtin; refine wpList_append_run rfl (.tmp 28) (.tmp 30) 22 rfl _ _ rfl rfl HRUN6.out ?_)
          clear y0 y1 y2
          obtain ⟨X0, X1, X2, B0, B1, B2⟩ := HC1.out
          have hz1 := HS1.out.size
          by_cases h1 : t.id = x.id
          · have f1 : (t.id == x.id) = true := by simpa using h1
            have g1 : (t.id != x.id) = false := by simpa using h1
            by_cases h2 : t.num = x.num
            · have f2 : (t.num == x.num) = true := by simpa using h2
              have g2 : (t.num != x.num) = false := by simpa using h2
              have EQ2 : Hid ((out ++ [x]) ++ wrest (l.drop (i + 1)) x true = R) := Lib.hid (by have h := EQ1.out; rw [if_pos (Prod.ext h1 h2), List.nil_append] at h; exact h)
              clear h1 h2
              go_wp2
              go_quiet (fail)
              go_wp2
              go_round
              case rel => exact ⟨i + 1, _, _, true, (out ++ [x]), rfl, rfl, rfl, by omega, by go_num, Lib.hid ⟨EQ2.out, ownsRow_same HO1.out ((Same.refl (fun _ => False) W1).drewN nq) (fun _ _ h => h), HS1.out.drewN nq⟩⟩
              case measure => simp [intOf]; omega
            · have f2 : (t.num == x.num) = false := by simpa using h2
              have g2 : (t.num != x.num) = true := by simpa using h2
              have HNE : Hid (¬ t.key = x.key) := Lib.hid (fun e => h2 (Prod.mk.inj e).2)
              clear h1 h2
              have EQ2 : Hid (((out ++ [x]) ++ [t]) ++ wrest (l.drop (i + 1)) x true = R) := Lib.hid (by have h := EQ1.out; rw [if_neg HNE.out] at h; rw [← h, List.append_assoc])
              have hl2 : ((out ++ [x])).length ≤ 1000 := by have h := congrArg List.length EQ2.out; simp only [List.length_append, List.length_cons, List.length_nil] at h ⊢; omega
              go_wp2
              go_quiet (fail)
              obtain ⟨v7, w7, hrun7, ho7, hs7⟩ := app_tri (ownsRow_same HO1.out ((Same.refl (fun _ => False) W1).drewN nq) (fun _ _ h => h)) hl2 (show w.heap.size + 1 ≤ (W1.drewN nq).heap.size by show w.heap.size + 1 ≤ W1.heap.size; omega) t
              have H7 := Lib.hid (And.intro ho7 ((HS1.out.drewN nq).trans hs7))
              have HRUN7 := Lib.hid hrun7
              clear hrun7 ho7 hs7
              go_wp2_with (at_builtin; refine wpList_append_run rfl (.tmp 50) (.tmp 55) 22 rfl _ _ rfl rfl HRUN7.out ?_)
              go_round
              case rel => exact ⟨i + 1, w7, v7, true, (out ++ [x]) ++ [t], rfl, rfl, rfl, by omega, by go_num, Lib.hid ⟨EQ2.out, H7.out.1, H7.out.2⟩⟩
              case measure => simp [intOf]; omega
          · have f1 : (t.id == x.id) = false := by simpa using h1
            have g1 : (t.id != x.id) = true := by simpa using h1
            have HNE : Hid (¬ t.key = x.key) := Lib.hid (fun e => h1 (Prod.mk.inj e).1)
            clear h1
            have EQ2 : Hid (((out ++ [x]) ++ [t]) ++ wrest (l.drop (i + 1)) x true = R) := Lib.hid (by have h := EQ1.out; rw [if_neg HNE.out] at h; rw [← h, List.append_assoc])
            have hl2 : ((out ++ [x])).length ≤ 1000 := by have h := congrArg List.length EQ2.out; simp only [List.length_append, List.length_cons, List.length_nil] at h ⊢; omega
            go_wp2
            go_quiet (fail)
            obtain ⟨v7, w7, hrun7, ho7, hs7⟩ := app_tri (ownsRow_same HO1.out ((Same.refl (fun _ => False) W1).drewN nq) (fun _ _ h => h)) hl2 (show w.heap.size + 1 ≤ (W1.drewN nq).heap.size by show w.heap.size + 1 ≤ W1.heap.size; omega) t
            have H7 := Lib.hid (And.intro ho7 ((HS1.out.drewN nq).trans hs7))
            have HRUN7 := Lib.hid hrun7
            clear hrun7 ho7 hs7
            go_wp2_with (at_builtin; refine wpList_append_run rfl (.tmp 50) (.tmp 55) 22 rfl _ _ rfl rfl HRUN7.out ?_)
            go_round
            case rel => exact ⟨i + 1, w7, v7, true, (out ++ [x]) ++ [t], rfl, rfl, rfl, by omega, by go_num, Lib.hid ⟨EQ2.out, H7.out.1, H7.out.2⟩⟩
            case measure => simp [intOf]; omega
    · obtain rfl : i = n := by omega
      have heq : out ++ (if d then [] else [x]) = R := by
        have h := HI.out.1
        rw [HN.out, List.drop_length, wrest] at h
        exact h
      have HEQ := Lib.hid heq
      clear heq
      cases d with
      | true =>
        go_wp2
        go_ret
        have he : out = R := by simpa using HEQ.out
        refine ⟨v5, rfl, by rw [← he]; exact ownsRow_base HI.out.2.1 (by omega), (H0.out.1.mono (T := fun b => w.heap.size ≤ b) (fun _ _ h => h.elim)).trans (HI.out.2.2.mono (fun b _ h => by omega)) |>.mono (fun b hb h => by omega)⟩
      | false =>
        have c0 := HI.out.2.2.cell b0 (by simp)
        have c1 := HI.out.2.2.cell b1 (by simp)
        have c2 := HI.out.2.2.cell b2 (by simp)
        obtain ⟨v7, w7, hrun7, ho7, hs7⟩ := app_tri HI.out.2.1 hol (by omega) x
        have H7 := Lib.hid (And.intro ho7 (HI.out.2.2.trans hs7))
        have HRUN7 := Lib.hid hrun7
        clear hrun7 ho7 hs7
        go_wp2_with (at_builtin; refine wpList_append_run rfl (.tmp 59) (.tmp 61) 22 rfl _ _ rfl rfl HRUN7.out ?_)
        go_ret
        have he : out ++ [x] = R := by simpa using HEQ.out
        refine ⟨v7, rfl, by rw [← he]; exact ownsRow_base H7.out.1 (by omega), (H0.out.1.mono (T := fun b => w.heap.size ≤ b) (fun _ _ h => h.elim)).trans (H7.out.2.mono (fun b _ h => by omega)) |>.mono (fun b hb h => by omega)⟩
end Go.Proofs.Ytcnocfboklhjnaa
