/- files: the reference's Close. Conditions: its form. -/
import Derived.Test.YtcllofffbmbmlaaRc
namespace Go.Proofs.Ytcllofffbmbmlaa
open Go.RowKit Go.Shelf
attribute [local go_sem] Oper.semAt_some

def FKey (R : List Fr) : Prop := R.Pairwise (fun a b => ¬ (a.pid = b.pid ∧ a.fd = b.fd))
theorem fdel_cut {R : List Fr} (h : FKey R) {i : Nat} {z : Fr} (hz : R[i]? = some z) : fdel R z.pid z.fd = R.take i ++ R.drop (i + 1) := by
  have hi := (List.getElem?_eq_some_iff.1 hz).1
  have e : R = R.take i ++ z :: R.drop (i + 1) := by
    have hd : R.drop i = z :: R.drop (i + 1) := by
      rw [List.drop_eq_getElem_cons hi]
      congr 1
      exact (List.getElem?_eq_some_iff.1 hz).2
    rw [← hd, List.take_append_drop]
  have ha := h
  unfold FKey at ha
  rw [e, List.pairwise_append, List.pairwise_cons] at ha
  unfold fdel
  have h1 : (R.take i).filter (fun r => ¬ (r.pid = z.pid ∧ r.fd = z.fd)) = R.take i := by
    rw [List.filter_eq_self]
    intro x hx
    have := ha.2.2 x hx z (List.mem_cons_self ..)
    simp only [decide_not, Bool.not_eq_eq_eq_not, Bool.not_true, decide_eq_false_iff_not]
    exact this
  have h2 : (R.drop (i + 1)).filter (fun r => ¬ (r.pid = z.pid ∧ r.fd = z.fd)) = R.drop (i + 1) := by
    rw [List.filter_eq_self]
    intro x hx
    have := ha.2.1.1 x hx
    simp only [decide_not, Bool.not_eq_eq_eq_not, Bool.not_true, decide_eq_false_iff_not]
    exact fun h => this ⟨h.1.symm, h.2.symm⟩
  conv => lhs; rw [e]
  rw [List.filter_append, List.filter_cons, if_neg (by simp), h1, h2]
theorem ffl_take (L : List Fr) (i : Nat) (j : Nat) (u : Value) (h : (ffl (L.take i))[j]? = some u) : (ffl L)[j]? = some u := by
  have : ffl L = ffl (L.take i) ++ ffl (L.drop i) := by rw [← ffl_append, List.take_append_drop]
  rw [this, List.getElem?_append_left (List.getElem?_eq_some_iff.1 h).1]
  exact h
theorem ffl_drop (L : List Fr) (i : Nat) (hi : i ≤ L.length) (j : Nat) (u : Value) (h : (ffl (L.drop i))[j]? = some u) : (ffl L)[i * 5 + j]? = some u := by
  have : ffl L = ffl (L.take i) ++ ffl (L.drop i) := by rw [← ffl_append, List.take_append_drop]
  have hl : (ffl (L.take i)).length = i * 5 := by rw [ffl_len, List.length_take]; congr 1; omega
  rw [this, List.getElem?_append_right (by omega), hl, show i * 5 + j - i * 5 = j by omega]
  exact h
theorem add_lit (g k j : Nat) : (⟨g, k, none⟩ : Addr).add j = (⟨g, 0, none⟩ : Addr).add (k + j) := by
  unfold Addr.add
  by_cases h1 : j = 0 <;> by_cases h2 : k = 0 <;> simp [h1, h2]
inductive CloseF (R : List Fr) (p q : Int) : List Fr → Int → Int → Bool → Int → Prop
  | arg : p < 1 → CloseF R p q R 0 0 false 2
  | fd : 1 ≤ p → fat R p q = none → CloseF R p q R 0 0 false 80
  | ok (x : Fr) : 1 ≤ p → fat R p q = some x → CloseF R p q (fdel R p q) x.kind x.thing (decide (frefs (fdel R p q) x.file = 0)) 0
/-- The rows without one of them. -/
theorem RAt.cut {s : Nat} {w w6 : World} {r : Nat} {ao ao' : Option Addr} {cap cap' : Nat} {R R' : List Fr} {last n : Nat} (h : RAt s w r ao cap R last) (hs : Same (fun _ => False) w w6) (hn : n = R'.length) (hl : R'.length ≤ 1000)
    (hrow : w6.ownsRow s 75 5 (.slice ao' n cap') n (ffl R')) : RAt s (w6.setCell ⟨r, 0, none⟩ (.slice ao' n cap')) r ao' cap' R' last ∧ Same (ROwn s w) w (w6.setCell ⟨r, 0, none⟩ (.slice ao' n cap')) := by
  subst hn
  have h6 := h.same0 hs
  have sF : Same (· = r) w6 (w6.setCell ⟨r, 0, none⟩ (.slice ao' R'.length cap')) := (Same.refl (· = r) _).setCell _ (.inr rfl)
  refine ⟨⟨World.cell?_setCell_same _ _ _ h6.c0, by simpa using h6.z0, ?_, by simpa using h6.z1, ?_, (sF.shp r (World.block_lt_of_cell? _ _ h6.c0)).trans h6.sr, h.lo, hl, h.lst⟩, ?_⟩
  · rw [World.cell?_setCell_other _ _ _ _ (by intro e; cases e)]; exact h6.c1
  · refine ownsRow_same hrow sF (fun gx hgx e => ?_)
    obtain ⟨_, _, k, hk⟩ := ownsRow_shape hrow hgx
    exact ne_sh hk h6.sr (by decide) e
  · refine (rown_of hs).trans' (sF.mono (T := ROwn s w) (fun k hk e => ?_)) (fun k hk _ => hk)
    subst e
    exact ⟨h.lo, _, _, h.sr, .inl rfl⟩
theorem beq_zero_dec (n : Nat) : ((n : Int) == 0) = decide (n = 0) := by
  by_cases h : n = 0
  · subst h; rfl
  · rw [decide_eq_false h]; simpa using h
theorem step_call2 {P : Program} {ops : Array Oper} {o : Oper} {a : Act} {w : World} {K : Act → World → Prop} {Q : Exit → Act → World → Prop} {E : Prop} {v : Value}
    (hg : o.guard = none) (f : FuncId) (x y : Operand) (ts : Array TypeId) (hop : o.op = Op.call { callee := Callee.value (Operand.func f), args := #[x, y], argTypes := ts }) (hent : ∀ args w, (callFunc f args).run P w = .ok (.enter f args) w)
    (vx vy : Value) (hx : a.eval x = vx) (hy : a.eval y = vy) (hc : Calls P f #[vx, vy] w fun e w' => e = .returned v ∧ w' = w) (hK : K (a.put o.dst v) w) :
    if Region.wanted o (yielded ops a.tmps) = true then Oper.wp P o a w K Q else E := by
  have hw : Region.wanted o (yielded ops a.tmps) = true := by simp [Region.wanted, hg]
  rw [if_pos hw]
  unfold Oper.wp
  have hrun : (execOp a.eval o).run P w = .ok (.enter f #[vx, vy]) w := by
    have hf : a.eval (Operand.func f) = .func (.func f) #[] #[] := rfl
    simp [execOp, hop, resolve, invoke, hent, hx, hy, hf, Result.andThen, Deferred.ofValue]
  rw [hrun, Oper.upon_enter]
  refine hc.mono ?_
  rintro e w' ⟨rfl, rfl⟩
  exact hK
set_option maxHeartbeats 3200000 in
set_option maxRecDepth 16384 in
theorem rclose_any {s : Nat} {w : World} {r : Nat} {ao : Option Addr} {cap : Nat} {R : List Fr} {last : Nat} (h : RAt s w r ao cap R last) (hk : FKey R) (p q : Int) :
    Calls Try.prog 30 #[.pointer (some ⟨r, 0, none⟩), .int .i64 p, .int .i64 q] w fun e w' => ∃ R' K T g er, e = .returned (.tuple #[.agg #[.int .i64 K, .int .i64 T], .bool g, .int .i64 er]) ∧ CloseF R p q R' K T g er ∧ RStep s w r R' last w' := by
  have hsA := same_alloc (W := w) (.cells #[.int .i64 0, .int .i64 0] 23)
  have HST := Lib.hid (h.stay hsA)
  by_cases hp : p < 1
  · clear h hsA
    go_enter Try.func30, Try.ntmps30
    go_wp2
    refine bodyPost_ret (v := .tuple #[.agg #[.int .i64 0, .int .i64 0], .bool false, .int .i64 2]) (by simp [results, Try.results30, go_sem]) rfl ?_
    exact ⟨_, _, _, _, _, rfl, .arg (by omega), HST.out⟩
  · have HP := Lib.hid (show 1 ≤ p by omega)
    have h1w := h.same0 hsA
    have ha := at_any h1w p q
    have H := Lib.hid h
    have HA := Lib.hid h1w
    rcases fat_cases R p q with ⟨h0, h1, -⟩ | ⟨i, x, h0, hx, h1, hxp, hxq, -⟩
    · have H0 := Lib.hid h0
      rw [h1] at ha
      clear h h0 h1 hsA h1w
      go_enter Try.func30, Try.ntmps30
      go_wp2_with fail
      refine ha.mono ?_
      rintro e w1 ⟨rfl, rfl⟩
      go_wp2
      refine bodyPost_ret (v := .tuple #[.agg #[.int .i64 0, .int .i64 0], .bool false, .int .i64 80]) (by simp [results, Try.results30, go_sem]) rfl ?_
      exact ⟨_, _, _, _, _, rfl, .fd HP.out H0.out, HST.out⟩
    · have H0 := Lib.hid h0
      have HX := Lib.hid (And.intro hx (And.intro hxp hxq))
      rw [h1] at ha
      have hi0 : ¬ (i : Int) < 0 := by omega
      have hc0 := h1w.c0
      obtain ⟨g, rfl, hc⟩ := h1w.at_ hx
      have d0 : (w.alloc (.cells #[.int .i64 0, .int .i64 0] 23)).cell? ⟨g, i * 5, none⟩ = some (.int .i64 x.pid) := hc 0 _ rfl
      have d1 := hc 1 _ rfl
      have d2 := hc 2 _ rfl
      have d3 := hc 3 _ rfl
      have d4 := hc 4 _ rfl
      have hil := (List.getElem?_eq_some_iff.1 hx).1
      have hlen := h1w.len
      obtain ⟨n, hn'⟩ : ∃ n, n = R.length := ⟨_, rfl⟩
      have HN := Lib.hid hn'
      rw [← hn'] at hc0 hil hlen
      have hin : (i : Int) < n := by omega
      have hin1 : (i : Int) + 1 ≤ n := by omega
      have hcapn : n ≤ cap := by
        rcases h1w.row.2 with ⟨h, _⟩ | ⟨g2, cap2, cur, h, _, _, h5, _⟩
        · cases h
        · cases h; rw [hn']; exact h5
      have HK := Lib.hid hk
      have sB : Same (fun _ => False) (w.alloc (.cells #[.int .i64 0, .int .i64 0] 23)) ((w.alloc (.cells #[.int .i64 0, .int .i64 0] 23)).alloc (.cells #[.int .i64 x.pid, .int .i64 x.fd, .int .i64 x.file, .int .i64 x.kind, .int .i64 x.thing] 75)) := same_alloc _
      have v0 := sB.cell hc0 (fun h => h)
      have HB := Lib.hid (h1w.same0 sB)
      have HSB := Lib.hid (hsA.trans sB)
      clear sB
      clear h h0 h1 hc hx hxp hxq hn' h1w hk
      have FCUT := Lib.hid (fdel_cut HK.out HX.out.1)
      go_enter Try.func30, Try.ntmps30
      go_wp2_with fail
      refine ha.mono ?_
      rintro e w1 ⟨rfl, rfl⟩
      clear ha
      go_wp2_with (at_builtin; refine stop_intro ?_)
      unfold Stop
      have hlo := HST.out
      have e2 : ((w.alloc (.cells #[.int .i64 0, .int .i64 0] 23)).alloc (.cells #[.int .i64 x.pid, .int .i64 x.fd, .int .i64 x.file, .int .i64 x.kind, .int .i64 x.thing] 75)).cell? ⟨w.heap.size + 1, 2, none⟩ = some (.int .i64 x.file) := by simp
      have e3 : ((w.alloc (.cells #[.int .i64 0, .int .i64 0] 23)).alloc (.cells #[.int .i64 x.pid, .int .i64 x.fd, .int .i64 x.file, .int .i64 x.kind, .int .i64 x.thing] 75)).cell? ⟨w.heap.size + 1, 3, none⟩ = some (.int .i64 x.kind) := by simp
      have e4 : ((w.alloc (.cells #[.int .i64 0, .int .i64 0] 23)).alloc (.cells #[.int .i64 x.pid, .int .i64 x.fd, .int .i64 x.file, .int .i64 x.kind, .int .i64 x.thing] 75)).cell? ⟨w.heap.size + 1, 4, none⟩ = some (.int .i64 x.thing) := by simp
      have o0 : ((w.alloc (.cells #[.int .i64 0, .int .i64 0] 23)).alloc (.cells #[.int .i64 x.pid, .int .i64 x.fd, .int .i64 x.file, .int .i64 x.kind, .int .i64 x.thing] 75)).cell? ⟨w.heap.size, 0, none⟩ = some (.int .i64 0) := by simp
      have o1 : ((w.alloc (.cells #[.int .i64 0, .int .i64 0] 23)).alloc (.cells #[.int .i64 x.pid, .int .i64 x.fd, .int .i64 x.file, .int .i64 x.kind, .int .i64 x.thing] 75)).cell? ⟨w.heap.size, 1, none⟩ = some (.int .i64 0) := by simp
      have f0 : ((w.alloc (.cells #[.int .i64 0, .int .i64 0] 23)).alloc (.cells #[.int .i64 x.pid, .int .i64 x.fd, .int .i64 x.file, .int .i64 x.kind, .int .i64 x.thing] 75)).frozen? ⟨w.heap.size, 0, none⟩ = false := by simp
      have f1 : ((w.alloc (.cells #[.int .i64 0, .int .i64 0] 23)).alloc (.cells #[.int .i64 x.pid, .int .i64 x.fd, .int .i64 x.file, .int .i64 x.kind, .int .i64 x.thing] 75)).frozen? ⟨w.heap.size, 1, none⟩ = false := by simp
      have sh : ((w.alloc (.cells #[.int .i64 0, .int .i64 0] 23)).alloc (.cells #[.int .i64 x.pid, .int .i64 x.fd, .int .i64 x.file, .int .i64 x.kind, .int .i64 x.thing] 75)).shape? w.heap.size = some (23, 2) := by rw [shape_old (by simp)]; exact shape_alloc2 w _ _ 23
      clear d0 d1 d2 d3 d4 hc0 hsA
      have hsz2 : ((w.alloc (.cells #[.int .i64 0, .int .i64 0] 23)).alloc (.cells #[.int .i64 x.pid, .int .i64 x.fd, .int .i64 x.file, .int .i64 x.kind, .int .i64 x.thing] 75)).heap.size = w.heap.size + 2 := by simp
      generalize (w.alloc (.cells #[.int .i64 0, .int .i64 0] 23)).alloc (.cells #[.int .i64 x.pid, .int .i64 x.fd, .int .i64 x.file, .int .i64 x.kind, .int .i64 x.thing] 75) = w2 at v0 HB HSB e2 e3 e4 o0 o1 f0 f1 sh hsz2 ⊢
      have hrl := World.block_lt_of_cell? _ _ H.out.c0
      simp only at hrl
      obtain ⟨i0, hi0', hq0, hq1, hq2⟩ := info_parts Try.info75
      refine wpList_append_same rfl _ _ 49 rfl (w.heap.size + 2) 75 i0 Fr.zero 5 40 Try.underlying49 hi0' hq0 hq1 hq2 Fr.zero_size (by decide) (.slice none 0 0) 0 [] rfl (World.ownsRow_nil _ _ _ _) ⟨g, 0, none⟩ i _ (ffl (R.take i)) rfl ?a1 ?a2 (ffl_one _) ?a3 ?a4 ?a5 ?_
      case a1 => rw [ffl_len, List.length_take]; congr 1; have := HN.out; omega
      case a2 => exact fun j u hu => HB.out.row.cells (g := g) rfl j u (ffl_take R i j u hu)
      case a3 => unfold maxLen; omega
      case a4 => omega
      case a5 => omega
      intro v1 w5 hown5 hsame5
      have hs5 : Same (fun _ => False) w2 w5 := hsame5.mono (fun _ _ h => by simp [Value.ownBlock] at h)
      have hR5 := HB.out.same0 hs5
      have d5 := hR5.c0
      rw [← HN.out] at d5
      have z5 := hR5.z0
      have hsz5 := hs5.size
      have R5 := Lib.hid (And.intro hR5 (And.intro hs5 hown5))
      clear hR5 hs5 hsame5 hown5
      have tc : ∀ j u, (ffl (R.drop (i + 1)))[j]? = some u → w5.cell? ((⟨g, (i + 1) * 5, none⟩ : Addr).add j) = some u := by
        intro j u hu
        rw [add_lit]
        exact R5.out.1.row.cells (g := g) rfl _ u (ffl_drop R (i + 1) (by have := HN.out; omega) j u hu)
      have te : cap = i + 1 → ∀ (ad : Addr) (j : Nat) (u : Value), (ffl (R.drop (i + 1)))[j]? = some u → w5.cell? (ad.add j) = some u := by
        intro hh ad j u hu
        have : R.drop (i + 1) = [] := by rw [List.drop_eq_nil_iff]; have := HN.out; omega
        rw [this] at hu
        simp [ffl] at hu
      have tl : (ffl (R.drop (i + 1))).length = (n - (i + 1)) * 5 := by rw [ffl_len, List.length_drop, ← HN.out]
      have TC := Lib.hid (And.intro tc (And.intro te tl))
      clear tc te tl
      go_wp2_with (at_builtin; refine stop_intro ?_)
      all_goals
        unfold Stop
        refine wpList_append_same rfl _ _ 49 rfl (w.heap.size + 2) 75 i0 Fr.zero 5 40 Try.underlying49 hi0' hq0 hq1 hq2 Fr.zero_size (by decide) v1 (0 + i) ([] ++ ffl (R.take i)) rfl R5.out.2.2 _ (n - (i + 1)) _ (ffl (R.drop (i + 1))) rfl TC.out.2.2 (by first | exact TC.out.1 | exact TC.out.2.1 (by assumption) _) (ffl_one _) (by unfold maxLen; omega) (by omega) (by omega) ?_
        intro v2 w6 hown6 hsame6
        obtain ⟨ao2, cap2, rfl, -⟩ := own_row_any2 hown6
        have hv1 : ∀ k, v1.ownBlock = some k → w.heap.size + 2 ≤ k := fun k hk => (ownsRow_shape R5.out.2.2 hk).1
        have hs6 : Same (fun _ => False) w w6 := (HSB.out.trans R5.out.2.1).trans' hsame6 (fun k e hk => by have := hv1 k e; omega)
        obtain ⟨NN, hNN⟩ : ∃ NN, NN = 0 + i + (n - (i + 1)) := ⟨_, rfl⟩
        have hR6 := H.out.same0 hs6
        have x0 := hR6.c0
        rw [← HN.out] at x0
        have z0 := hR6.z0
        rw [← hNN] at hown6 ⊢
        have hcut := FCUT.out
        rw [HX.out.2.1, HX.out.2.2] at hcut
        have hcl : (fdel R p q).length = NN := by rw [hcut, List.length_append, List.length_take, List.length_drop, ← HN.out]; omega
        have hrow : w6.ownsRow s 75 5 (.slice ao2 NN cap2) NN (ffl (fdel R p q)) := by
          have := ownsRow_base hown6 (base' := s) (by have := H.out.lo; omega)
          rw [hcut, ffl_append]
          simpa using this
        have FIN := Lib.hid (H.out.cut hs6 (R' := fdel R p q) hcl.symm (by omega) hrow)
        have S25 := R5.out.2.1
        have sF : Same (· = r) w6 (w6.setCell ⟨r, 0, none⟩ (.slice ao2 NN cap2)) := (Same.refl (· = r) _).setCell _ (.inr rfl)
        have tr : ∀ (b o : Nat) (u : Value), w2.cell? ⟨b, o, none⟩ = some u → w.heap.size ≤ b → b < w.heap.size + 2 → (w6.setCell ⟨r, 0, none⟩ (.slice ao2 NN cap2)).cell? ⟨b, o, none⟩ = some u := fun b o u hu h1 h2 =>
          sF.cell (hsame6.cell (S25.cell hu (fun h => h)) (fun e => by have h9 : w.heap.size + 2 ≤ b := hv1 _ e; omega)) (by simp only; omega)
        have tz : ∀ (b o : Nat) (u : Value), w2.cell? ⟨b, o, none⟩ = some u → w2.frozen? ⟨b, o, none⟩ = false → w.heap.size ≤ b → b < w.heap.size + 2 → (w6.setCell ⟨r, 0, none⟩ (.slice ao2 NN cap2)).frozen? ⟨b, o, none⟩ = false := fun b o u hu hz h1 h2 =>
          sF.unfrozen (hsame6.cell (S25.cell hu (fun h => h)) (fun e => by have h9 : w.heap.size + 2 ≤ b := hv1 _ e; omega)) (hsame6.unfrozen (S25.cell hu (fun h => h)) (S25.unfrozen hu hz (fun h => h)) (fun e => by have h9 : w.heap.size + 2 ≤ b := hv1 _ e; omega)) (by simp only; omega)
        have y2 := tr _ _ _ e2 (by omega) (by omega)
        have y3 := tr _ _ _ e3 (by omega) (by omega)
        have y4 := tr _ _ _ e4 (by omega) (by omega)
        have p0 := tr _ _ _ o0 (by omega) (by omega)
        have p1 := tr _ _ _ o1 (by omega) (by omega)
        have q0 := tz _ _ _ o0 f0 (by omega) (by omega)
        have q1 := tz _ _ _ o1 f1 (by omega) (by omega)
        have sh7 := (sF.shp _ (by have := hsame6.size; omega)).trans ((hsame6.shp _ (by omega)).trans ((S25.shp _ (by omega)).trans sh))
        clear hNN hcl hs6 hsame6 hown6 hR6 hrow hcut S25 sF tr tz hv1 o0 o1 f0 f1 e2 e3 e4 d5 z5 v0
        go_wp2
        generalize w6.setCell ⟨r, 0, none⟩ (.slice ao2 NN cap2) = w7 at FIN y2 y3 y4 p0 p1 q0 q1 sh7 ⊢
        clear x0 z0
        have hc := refs_any (FIN.out.1.same0 ((Same.refl _ w7).drew)) x.file
        apply wp_to (X := (w7.drew.setCell ⟨w.heap.size, 0, none⟩ (.int .i64 x.kind)).setCell ⟨w.heap.size, 1, none⟩ (.int .i64 x.thing))
        case h1 =>
          go_region_law (refine step_call2 rfl 34 (.tmp 51) (.tmp 53) #[48, 3] rfl (enters_of Try.func34 (by kernel_rfl) rfl) (.pointer (some ⟨r, 0, none⟩)) (.int .i64 x.file) (by go_simp) (by go_simp) hc ?_)
          all_goals exact ⟨rfl, rfl⟩
        have S7 : Same (ROwn s w) w ((w7.drew.setCell ⟨w.heap.size, 0, none⟩ (.int .i64 x.kind)).setCell ⟨w.heap.size, 1, none⟩ (.int .i64 x.thing)) := (FIN.out.2.drew.setCell _ (.inl (Nat.le_refl _))).setCell _ (.inl (Nat.le_refl _))
        have R7 : RAt s ((w7.drew.setCell ⟨w.heap.size, 0, none⟩ (.int .i64 x.kind)).setCell ⟨w.heap.size, 1, none⟩ (.int .i64 x.thing)) r ao2 cap2 (fdel R p q) last := by
          refine (FIN.out.1.same0 (Same.refl _ w7).drew).same (S := (· = w.heap.size)) (Same.setCell (Same.setCell (Same.refl (· = w.heap.size) w7.drew) (a := ⟨w.heap.size, 0, none⟩) (.int .i64 x.kind) (.inr rfl)) (a := ⟨w.heap.size, 1, none⟩) (.int .i64 x.thing) (.inr rfl)) ?_
          rintro b _ rfl ⟨-, t, k, hsh, ht⟩
          have h9 := (show w7.drew.shape? w.heap.size = some (23, 2) from sh7).symm.trans hsh
          simp only [Option.some.injEq, Prod.mk.injEq] at h9
          obtain ⟨h9, -⟩ := h9
          subst h9
          exact absurd ht (by decide)
        have F7 := Lib.hid (And.intro R7 S7)
        clear S7 R7 hc
        go_wp2
        refine bodyPost_ret (v := .tuple #[.agg #[.int .i64 x.kind, .int .i64 x.thing], .bool (decide (frefs (fdel R p q) x.file = 0)), .int .i64 0]) (by simp [results, Try.results30, go_sem, p0, p1, beq_zero_dec]) rfl ?_
        exact ⟨_, _, _, _, _, rfl, .ok x HP.out H0.out, _, _, F7.out⟩
end Go.Proofs.Ytcllofffbmbmlaa
