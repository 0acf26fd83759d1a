/- files: the reference's Open. Conditions: its form. -/
import Derived.Test.YtcllofffbmbmlaaRa
import Derived.Deep.RegionLaw
namespace Go.Proofs.Ytcllofffbmbmlaa
open Go.RowKit Go.Shelf
attribute [local go_sem] Oper.semAt_some

theorem step_append_run {P : Program} {ops : Array Oper} {o : Oper} {a : Act} {w w' : World} {K : Act → World → Prop} {Q : Exit → Act → World → Prop} {E : Prop} {v' : Value}
    (hg : o.guard = none) (s x : Operand) (t : TypeId) (hop : o.op = Op.call { callee := Callee.builtin Builtin.append, args := #[s, x], argTypes := #[t, t] }) (vs vx : Value) (hs : a.eval s = vs) (hx : a.eval x = vx)
    (hrun : (Builtin.append_ #[t, t] o.type #[vs, vx]).run P w = .ok v' w') (hK : K (a.put o.dst v') w') :
    if Region.wanted o (yielded ops a.tmps) = true then Oper.wp P o a w K Q else E := by
  have hw : Region.wanted o (yielded ops a.tmps) = true := by simp [Region.wanted, hg]
  rw [if_pos hw]
  unfold Oper.wp
  simp [execOp, hop, resolve, invoke, builtin, hs, hx, hrun, Result.andThen]
  exact hK
theorem wpList_append_run {P : Program} {w w' : World} {ops : Array Oper} {rest : List Oper} {o : Oper} {a : Act} {Q : Exit → Act → World → Prop} {v' : Value}
    (hg : o.guard = none) (s x : Operand) (t : TypeId) (hop : o.op = Op.call { callee := Callee.builtin Builtin.append, args := #[s, x], argTypes := #[t, t] }) (vs vx : Value) (hs : a.eval s = vs) (hx : a.eval x = vx)
    (hrun : (Builtin.append_ #[t, t] o.type #[vs, vx]).run P w = .ok v' w') (hK : wpList P ops Q rest (a.put o.dst v') w') : wpList P ops Q (o :: rest) a w := by
  refine wpList_plain hg fun K hK' => ?_
  unfold Oper.wp
  simp [execOp, hop, resolve, invoke, builtin, hs, hx, hrun, Result.andThen]
  exact hK' _ _ hK
/-- A piece of code that comes to one frame and one world. -/
def Only (A : Act) (X : World) : Exit → Act → World → Prop
  | .normal, a, w => a = A ∧ w = X
  | _, _, _ => False
theorem wp_to {P : Program} {c : Code} {Q : Exit → Act → World → Prop} {a : Act} {w : World} (A : Act) (X : World) (h1 : c.wp P (Only A X) a w) (h2 : Q .normal A X) : c.wp P Q a w :=
  wp_mono h1 (by
    intro e a' w' h
    cases e with
    | normal => obtain ⟨rfl, rfl⟩ := h; exact h2
    | _ => exact h.elim)
def Fr.zero : Value := .agg #[.int .i64 0, .int .i64 0, .int .i64 0, .int .i64 0, .int .i64 0]
theorem vals_one (x : Fr) : ∀ u ∈ x.vals, u.oneCell' = true := by
  intro u hu
  simp only [Fr.vals, List.mem_cons, List.not_mem_nil, or_false] at hu
  rcases hu with rfl | rfl | rfl | rfl | rfl <;> rfl
theorem ffl_one (R : List Fr) : ∀ u ∈ ffl R, u.oneCell' = true := by
  intro u hu
  obtain ⟨p, _, hp⟩ := List.mem_flatMap.1 hu
  exact vals_one p u hp
theorem ffl_append (R S : List Fr) : ffl (R ++ S) = ffl R ++ ffl S := by unfold ffl; rw [List.flatMap_append]
theorem Try.info75 : (Try.prog.info? 75).map (fun i => (i.zero, i.size, i.bytes)) = some (some Fr.zero, 5, 40) := by kernel_rfl
theorem Fr.zero_size : Fr.zero.cells.size = 5 := rfl
theorem own_row_any2 {w : World} {base : Nat} {e : TypeId} {size : Nat} {v : Value} {n : Nat} {xs : List Value} (h : w.ownsRow base e size v n xs) : ∃ ao cap, v = .slice ao n cap ∧ (0 < n → ∃ g, ao = some ⟨g, 0, none⟩) := by
  rcases h.2 with ⟨rfl, h0⟩ | ⟨g, cap, cur, rfl, _⟩
  · subst h0; exact ⟨none, 0, rfl, fun h => by omega⟩
  · exact ⟨_, cap, rfl, fun _ => ⟨g, rfl⟩⟩
/-- Rows more. -/
theorem RAt.pushN {s : Nat} {w w1 : World} {r : Nat} {ao : Option Addr} {cap : Nat} {R : List Fr} {last : Nat} (h : RAt s w r ao cap R last) (X : List Fr) (hlen : R.length + X.length ≤ 1000) (hs : Same (fun _ => False) w w1) (ad : Addr) (c : Nat)
    (hb : ∀ j u, (ffl X)[j]? = some u → w1.cell? (ad.add j) = some u) :
    ∃ ao' cap' w6, (Builtin.append_ #[49, 49] 49 #[.slice ao R.length cap, .slice (some ad) X.length c]).run Try.prog w1 = .ok (.slice ao' (R ++ X).length cap') w6 ∧ w6.cell? ⟨r, 0, none⟩ = some (.slice ao R.length cap) ∧ w6.frozen? ⟨r, 0, none⟩ = false ∧
      RAt s (w6.setCell ⟨r, 0, none⟩ (.slice ao' (R ++ X).length cap')) r ao' cap' (R ++ X) last ∧ Same (ROwn s w) w (w6.setCell ⟨r, 0, none⟩ (.slice ao' (R ++ X).length cap')) := by
  have h1 := h.same0 hs
  obtain ⟨i0, hi0, hq0, hq1, hq2⟩ := info_parts Try.info75
  have hlr : (R ++ X).length = R.length + X.length := List.length_append
  have hrl := World.block_lt_of_cell? _ _ h1.c0
  have hlo := h.lo
  obtain ⟨v', w6, hrun, hown6, hsame6⟩ := run_append_same (P := Try.prog) w1 s 49 49 75 i0 Fr.zero 5 40 Try.underlying49 hi0 hq0 hq1 hq2 Fr.zero_size (by decide) _ _ _ h1.row ad X.length c (ffl X) (ffl_len X) hb (ffl_one X) (by unfold maxLen; omega) (by omega) (by simp at hrl; omega)
  obtain ⟨ao', cap', hv, -⟩ := own_row_any2 hown6
  subst hv
  have hbr : ¬ (Value.slice ao R.length cap).ownBlock = some r := fun e => by have := (h1.blk e).2.2.1; omega
  have x0 := hsame6.cell h1.c0 hbr
  have xz := hsame6.unfrozen h1.c0 h1.z0 hbr
  have x1 := hsame6.cell h1.c1 hbr
  have xz1 := hsame6.unfrozen h1.c1 h1.z1 hbr
  have xs := (hsame6.shp r hrl).trans h1.sr
  have sF : Same (· = r) w6 (w6.setCell ⟨r, 0, none⟩ (.slice ao' (R ++ X).length cap')) := (Same.refl (· = r) _).setCell _ (.inr rfl)
  rw [hlr] at sF ⊢
  refine ⟨ao', cap', w6, hrun, x0, xz, ?_, ?_⟩
  · refine ⟨?_, by simpa using xz, ?_, by simpa using xz1, ?_, ?_, h.lo, by rw [hlr]; omega, h.lst⟩
    · rw [hlr]; exact World.cell?_setCell_same _ _ _ x0
    · rw [World.cell?_setCell_other _ _ _ _ (by intro e; cases e)]; exact x1
    · rw [hlr, ffl_append]
      refine ownsRow_same hown6 sF (fun gx hgx e => ?_)
      obtain ⟨_, _, k, hk⟩ := ownsRow_shape hown6 hgx
      exact ne_sh hk xs (by decide) e
    · exact (sF.shp r (World.block_lt_of_cell? _ _ x0)).trans xs
  · refine (((rown_of hs).trans (hsame6.mono (T := ROwn s w) (fun k hk e => ?_)))).trans' (sF.mono (T := ROwn s w) (fun k hk e => ?_)) (fun k hk _ => hk)
    · obtain ⟨g1, g2, _, n, hn⟩ := h.blk e
      exact ⟨g1, _, _, hn, .inr rfl⟩
    · subst e
      exact ⟨h.lo, _, _, h.sr, .inl rfl⟩
/-- One row more. -/
theorem RAt.push {s : Nat} {w w1 : World} {r : Nat} {ao : Option Addr} {cap : Nat} {R : List Fr} {last : Nat} (h : RAt s w r ao cap R last) (x : Fr) (hlen : R.length < 1000) (hs : Same (fun _ => False) w w1) (b : Nat)
    (hb : ∀ j u, x.vals[j]? = some u → w1.cell? ((⟨b, 0, none⟩ : Addr).add j) = some u) :
    ∃ ao' cap' w6, (Builtin.append_ #[49, 49] 49 #[.slice ao R.length cap, .slice (some ⟨b, 0, none⟩) 1 1]).run Try.prog w1 = .ok (.slice ao' (R.length + 1) cap') w6 ∧ w6.cell? ⟨r, 0, none⟩ = some (.slice ao R.length cap) ∧ w6.frozen? ⟨r, 0, none⟩ = false ∧
      RAt s (w6.setCell ⟨r, 0, none⟩ (.slice ao' (R.length + 1) cap')) r ao' cap' (R ++ [x]) last ∧ Same (ROwn s w) w (w6.setCell ⟨r, 0, none⟩ (.slice ao' (R.length + 1) cap')) := by
  obtain ⟨ao', cap', w6, h1, h2, h3, h4, h5⟩ := h.pushN [x] (by simp; omega) hs ⟨b, 0, none⟩ 1 (by simpa [ffl] using hb)
  rw [List.length_append, List.length_singleton] at h1 h4 h5
  exact ⟨ao', cap', w6, h1, h2, h3, h4, h5⟩
theorem RAt.bump {s : Nat} {w : World} {r : Nat} {ao : Option Addr} {cap : Nat} {R : List Fr} {last : Nat} (h : RAt s w r ao cap R last) (hl : last < 1000) : RAt s (w.setCell ⟨r, 1, none⟩ (.int .i64 ((last : Int) + 1))) r ao cap R (last + 1) := by
  have sF : Same (· = r) w (w.setCell ⟨r, 1, none⟩ (.int .i64 ((last : Int) + 1))) := (Same.refl (· = r) _).setCell _ (.inr rfl)
  refine ⟨?_, by simpa using h.z0, ?_, by simpa using h.z1, ownsRow_same h.row sF (fun gx hgx e => (h.blk hgx).2.2.1 e), (sF.shp r (World.block_lt_of_cell? _ _ h.c0)).trans h.sr, h.lo, h.len, by omega⟩
  · rw [World.cell?_setCell_other _ _ _ _ (by intro e; cases e)]; exact h.c0
  · exact World.cell?_setCell_same _ _ _ h.c1
/-- What the reference's operation leaves. -/
def RStep (s : Nat) (w : World) (r : Nat) (R : List Fr) (last : Nat) (w' : World) : Prop := ∃ ao cap, RAt s w' r ao cap R last ∧ Same (ROwn s w) w w'
theorem RAt.stay {s : Nat} {w : World} {r : Nat} {ao : Option Addr} {cap : Nat} {R : List Fr} {last : Nat} (h : RAt s w r ao cap R last) {w' : World} (hs : Same (fun _ => False) w w') : RStep s w r R last w' := ⟨ao, cap, h.same0 hs, rown_of hs⟩
inductive OpenF (R : List Fr) (last : Nat) (p K T : Int) : List Fr → Nat → Int → Int → Prop
  | arg : p < 1 ∨ K < 1 ∨ T < 0 → OpenF R last p K T R last 0 2
  | fds : 1 ≤ p → 1 ≤ K → 0 ≤ T → (∀ k : Nat, k < 8 → fat R p k ≠ none) → OpenF R last p K T R last 0 81
  | files (k : Nat) : 1 ≤ p → 1 ≤ K → 0 ≤ T → k < 8 → fat R p k = none → 32 ≤ fcnt R last → OpenF R last p K T R last 0 82
  | ok (k : Nat) : 1 ≤ p → 1 ≤ K → 0 ≤ T → k < 8 → fat R p k = none → (∀ j : Nat, j < k → fat R p j ≠ none) → fcnt R last < 32 → OpenF R last p K T (R ++ [⟨p, k, (last : Int) + 1, K, T⟩]) (last + 1) k 0
set_option maxHeartbeats 3200000 in
set_option maxRecDepth 16384 in
theorem ropen_any {s : Nat} {w : World} {r : Nat} {ao : Option Addr} {cap : Nat} {R : List Fr} {last : Nat} (h : RAt s w r ao cap R last) (hn : R.length < 1000) (hl : last < 1000) (p K T : Int) :
    Calls Try.prog 28 #[.pointer (some ⟨r, 0, none⟩), .int .i64 p, .agg #[.int .i64 K, .int .i64 T]] w fun e w' => ∃ R' last' k er, e = .returned (.tuple #[.int .i64 k, .int .i64 er]) ∧ OpenF R last p K T R' last' k er ∧ RStep s w r R' last' w' := by
  have hsA := same_alloc (W := w) (.cells #[.int .i64 K, .int .i64 T] 23)
  have HST := Lib.hid (h.stay hsA)
  by_cases hbad : p < 1 ∨ K < 1 ∨ T < 0
  · have HB := Lib.hid hbad
    by_cases h1 : p < 1
    · clear h hbad hsA
      go_enter Try.func28, Try.ntmps28
      go_wp2
      go_ret2
      exact ⟨_, _, _, _, rfl, .arg HB.out, HST.out⟩
    · by_cases h2 : K < 1
      · clear h hbad hsA
        go_enter Try.func28, Try.ntmps28
        go_wp2
        go_ret2
        exact ⟨_, _, _, _, rfl, .arg HB.out, HST.out⟩
      · have h3 : T < 0 := by omega
        clear h hbad hsA
        go_enter Try.func28, Try.ntmps28
        go_wp2
        go_ret2
        exact ⟨_, _, _, _, rfl, .arg HB.out, HST.out⟩
  · have h1 : ¬ p < 1 := by omega
    have h2 : ¬ K < 1 := by omega
    have h3 : ¬ T < 0 := by omega
    have HP := Lib.hid (show 1 ≤ p ∧ 1 ≤ K ∧ 0 ≤ T by omega)
    have H1 := Lib.hid (h.same0 hsA)
    have H := Lib.hid h
    clear h hbad hsA
    go_enter Try.func28, Try.ntmps28
    go_wp2_with fail
    refine (rfree_any H1.out p).mono ?_
    rintro e w1 ⟨k, rfl, hk, rfl⟩
    rcases hk with ⟨rfl, hk⟩ | ⟨k, hk8, rfl, hk0, hkj⟩
    · have HK := Lib.hid hk
      clear hk
      go_wp2
      go_ret2
      exact ⟨_, _, _, _, rfl, .fds HP.out.1 HP.out.2.1 HP.out.2.2 HK.out, HST.out⟩
    · have HK := Lib.hid (And.intro hk0 hkj)
      have hk00 : ¬ (k : Int) < 0 := by omega
      have hfl := fcnt_le R last
      clear hk0 hkj
      go_wp2_with fail
      refine (rcount_any H1.out).mono ?_
      rintro e w1 ⟨rfl, rfl⟩
      by_cases hf : 32 ≤ fcnt R last
      · have HF := Lib.hid hf
        have hf' : (32 : Int) ≤ fcnt R last := by omega
        clear hf
        go_wp2
        go_ret2
        exact ⟨_, _, _, _, rfl, .files k HP.out.1 HP.out.2.1 HP.out.2.2 hk8 HK.out.1 HF.out, HST.out⟩
      · have HF := Lib.hid hf
        have hf' : decide ((32 : Int) ≤ fcnt R last) = false := by simp; omega
        clear hf
        have c1 := H1.out.c1
        have z1 := H1.out.z1
        go_wp2
        have hR2 := H1.out.bump hl
        have hs2 : Same (ROwn s w) w ((w.alloc (.cells #[.int .i64 K, .int .i64 T] 23)).setCell ⟨r, 1, none⟩ (.int .i64 ((last : Int) + 1))) := (rown_of (same_alloc _)).setCell _ (.inr ⟨H.out.lo, _, _, H.out.sr, .inl rfl⟩)
        have hrl := World.block_lt_of_cell? _ _ H.out.c0
        have k0 : ((w.alloc (.cells #[.int .i64 K, .int .i64 T] 23)).setCell ⟨r, 1, none⟩ (.int .i64 ((last : Int) + 1))).cell? ⟨w.heap.size, 0, none⟩ = some (.int .i64 K) := by
          rw [World.cell?_setCell_other _ _ _ _ (by intro e; simp only [Addr.mk.injEq] at e; simp only at hrl; omega)]; simp
        have k1 : ((w.alloc (.cells #[.int .i64 K, .int .i64 T] 23)).setCell ⟨r, 1, none⟩ (.int .i64 ((last : Int) + 1))).cell? ⟨w.heap.size, 1, none⟩ = some (.int .i64 T) := by
          rw [World.cell?_setCell_other _ _ _ _ (by intro e; simp only [Addr.mk.injEq] at e; simp only at hrl; omega)]; simp
        clear c1 z1
        generalize (w.alloc (.cells #[.int .i64 K, .int .i64 T] 23)).setCell ⟨r, 1, none⟩ (.int .i64 ((last : Int) + 1)) = w2 at hR2 hs2 k0 k1 ⊢
        have sA : Same (fun _ => False) w2 (w2.alloc (.cells #[.int .i64 p, .int .i64 k, .int .i64 ((last : Int) + 1), .int .i64 K, .int .i64 T] 75)) := same_alloc _
        obtain ⟨ao', cap', w6, hrun, x0, xz, hR6, hs6⟩ := hR2.push ⟨p, k, (last : Int) + 1, K, T⟩ hn sA.drew w2.heap.size (fun j u hu => by rw [World.cell?_drew]; exact cells_new rfl hu)
        have u0 := hR2.c0
        have u1 : w2.cell? ⟨r, 1, none⟩ = some (.int .i64 ((last : Int) + 1)) := hR2.c1
        have v0 := sA.cell u0 (fun h => h)
        have v1 := sA.cell u1 (fun h => h)
        have j0 := sA.cell k0 (fun h => h)
        have j1 := sA.cell k1 (fun h => h)
        have FIN := Lib.hid (And.intro hR6 (rown_trans hs2 hs6))
        clear hR2 hs2 sA hR6 hs6
        obtain ⟨n, hn'⟩ : ∃ n, n = R.length := ⟨_, rfl⟩
        rw [← hn'] at hrun x0 u0 v0 FIN
        have HN := Lib.hid hn'
        clear hn'
        apply wp_to (X := w6.setCell ⟨r, 0, none⟩ (.slice ao' (n + 1) cap'))
        case h1 =>
          go_region_law (refine step_append_run rfl (.tmp 41) (.tmp 50) 49 rfl _ _ rfl rfl hrun ?_)
          all_goals exact ⟨rfl, rfl⟩
        clear hrun x0 xz u0 u1 v0 v1 j0 j1 k0 k1
        go_wp2
        go_ret2
        exact ⟨_, _, _, _, rfl, .ok k HP.out.1 HP.out.2.1 HP.out.2.2 hk8 HK.out.1 HK.out.2 (by have := HF.out; omega), _, _, FIN.out⟩
end Go.Proofs.Ytcllofffbmbmlaa
