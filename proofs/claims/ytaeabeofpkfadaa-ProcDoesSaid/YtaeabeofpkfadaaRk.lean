/- proc: the reference's Fork. Conditions: its form. -/
import Derived.Test.YtaeabeofpkfadaaRj
import Derived.Deep.RegionLaw
namespace Go.Proofs.Ytaeabeofpkfadaa
open Go.RowKit Go.Shelf
attribute [local go_sem] Oper.semAt_some

theorem step_append_run {P : Program} {ops : Array Oper} {o : Oper} {a : Act} {w w' : World} {K : Act → World → Prop} {Q : Exit → Act → World → Prop} {E : Prop} {v' : Value}
    (hg : o.guard = none) (s x : Operand) (t : TypeId) (hop : o.op = Op.call { callee := Callee.builtin Builtin.append, args := #[s, x], argTypes := #[t, t] }) (vs vx : Value) (hs : a.eval s = vs) (hx : a.eval x = vx)
    (hrun : (Builtin.append_ #[t, t] o.type #[vs, vx]).run P w = .ok v' w') (hK : K (a.put o.dst v') w') :
    if Region.wanted o (yielded ops a.tmps) = true then Oper.wp P o a w K Q else E := by
  have hw : Region.wanted o (yielded ops a.tmps) = true := by simp [Region.wanted, hg]
  rw [if_pos hw]
  unfold Oper.wp
  simp [execOp, hop, resolve, invoke, builtin, hs, hx, hrun, Result.andThen]
  exact hK
/-- A piece of code that comes to one frame and one world. -/
def Only (A : Act) (X : World) : Exit → Act → World → Prop
  | .normal, a, w => a = A ∧ w = X
  | _, _, _ => False
theorem wp_to {P : Program} {c : Code} {Q : Exit → Act → World → Prop} {a : Act} {w : World} (A : Act) (X : World) (h1 : c.wp P (Only A X) a w) (h2 : Q .normal A X) : c.wp P Q a w :=
  wp_mono h1 (by
    intro e a' w' h
    cases e with
    | normal => obtain ⟨rfl, rfl⟩ := h; exact h2
    | _ => exact h.elim)
theorem RAt.rq2 {s : Nat} {w : World} {r g cap : Nat} {L : List Pr} {last : Int} (h : RAt s w r g cap L last) : RQ s w r g L last w := h.rq (Same.refl _ _)
set_option maxHeartbeats 3200000 in
set_option maxRecDepth 16384 in
theorem rfork_any {s : Nat} {w : World} {r g cap : Nat} {L : List Pr} {last : Int} (h : RAt s w r g cap L last) (hi : Inv L last) (pid : Int) (b : Nat) :
    Calls Try.prog 31 #[.pointer (some ⟨r, 0, none⟩), .int .i64 pid] w fun e w' => e = .returned (.tuple #[.int .i64 (forkN L last pid), .int .i64 (forkE L last pid)]) ∧ RQ s w r g (forkL L last pid b) (forkT L last pid) w' := by
  have ha := at_any h pid
  have hrq := h.rq2
  unfold forkN forkE forkL forkT forkP rn
  rcases at_cases L pid with ⟨h1, h2⟩ | ⟨k, p, h1, hp, h2⟩
  · rw [h2] at ha
    rw [h1]
    simp only
    clear h h1 h2
    go_enter Try.func31, Try.ntmps31
    go_wp2_with fail
    refine ha.mono ?_
    rintro e w1 ⟨rfl, rfl⟩
    go_wp2
    go_ret2
    exact ⟨rfl, hrq⟩
  · rw [h2] at ha
    rw [h1]
    have hk0 : ¬ (k : Int) < 0 := by omega
    have hl := h.len
    have hkl := (List.getElem?_eq_some_iff.1 hp).1
    have hc0 := h.c0
    have hc1 := h.c1
    have hz1 := h.z1
    have hlt := h.lt
    have hll := hi.l2
    have hl1 := hi.l1
    obtain ⟨c2, z2⟩ := h.at_ hp (j := 2) rfl
    obtain ⟨n, hn⟩ : ∃ n, n = L.length := ⟨_, rfl⟩
    have H := Lib.hid h
    have HP := Lib.hid hp
    have HN := Lib.hid hn
    have hgr := h.gr
    have hrg : ¬ r = g := fun e => hgr e.symm
    rw [← hn] at hc0 hkl hl
    have hkn : (k : Int) < n := by omega
    by_cases e1 : p.st = 1
    · rw [e1] at c2
      simp only [e1, if_true]
      rw [← hn]
      by_cases hf : n = 16 ∨ last = 30000
      · simp only [hf, if_true]
        clear h h1 h2 hp hn
        by_cases h16 : n = 16
        · subst h16
          go_enter Try.func31, Try.ntmps31
          go_wp2_with fail
          refine ha.mono ?_
          rintro e w1 ⟨rfl, rfl⟩
          go_wp2
          go_ret2
          exact ⟨rfl, hrq⟩
        · have hn16 : decide (16 ≤ (n : Int)) = false := by simp; omega
          have hl3 : last = 30000 := by omega
          subst hl3
          clear hf
          go_enter Try.func31, Try.ntmps31
          go_wp2_with fail
          refine ha.mono ?_
          rintro e w1 ⟨rfl, rfl⟩
          go_wp2
          go_ret2
          exact ⟨rfl, hrq⟩
      · simp only [hf, if_false]
        have hn16 : decide (16 ≤ (n : Int)) = false := by simp; omega
        have hl3 : decide (30000 ≤ last) = false := by simp; omega
        have hn15 : n ≤ 15 := by omega
        clear h h1 h2 hp hn hf hrq
        go_enter Try.func31, Try.ntmps31
        go_wp2_with fail
        refine ha.mono ?_
        rintro e w1 ⟨rfl, rfl⟩
        clear ha
        go_wp2
        obtain ⟨w2, hw2⟩ : ∃ w2, w2 = w1.setCell ⟨r, 1, none⟩ (.int .i64 (last + 1)) := ⟨_, rfl⟩
        rw [← hw2]
        have hs2 : Same (· = r) w1 w2 := by rw [hw2]; exact (Same.refl _ _).setCell _ (.inr rfl)
        have u0 : w2.cell? ⟨r, 0, none⟩ = some (.slice (some ⟨g, 0, none⟩) n cap) := by rw [hw2]; simp [go_sem, hc0]
        have u1 : w2.cell? ⟨r, 1, none⟩ = some (.int .i64 (last + 1)) := by rw [hw2]; exact World.cell?_setCell_same _ _ _ hc1
        have uz : w2.frozen? ⟨r, 0, none⟩ = false := by rw [hw2]; simpa using H.out.z0
        have uz1 : w2.frozen? ⟨r, 1, none⟩ = false := by rw [hw2]; simpa using hz1
        have orow : w2.ownsRow s 34 8 (.slice (some ⟨g, 0, none⟩) n cap) n (flat L) := by
          have := ownsRow_same H.out.row hs2 (fun gx hgx e => by
            have hg : g = gx := by simpa [Value.ownBlock] using hgx
            omega)
          rwa [← HN.out] at this
        have p3 := hs2.cell (H.out.at_ HP.out (j := 3) rfl).1 (by simp only; omega)
        have p4 := hs2.cell (H.out.at_ HP.out (j := 4) rfl).1 (by simp only; omega)
        have hz2 : w2.heap.size = w1.heap.size := by rw [hw2]; simp
        obtain ⟨i0, hi0, hq0, hq1, hq2⟩ := info_parts Try.info34
        have sA : Same (fun _ => False) w2 (w2.alloc (.cells #[.int .i64 (last + 1), .int .i64 pid, .int .i64 1, .int .i64 p.uid, .int .i64 p.gid, .string ⟨#[]⟩, .int .i64 0, .bool false] 34)) := same_alloc _
        have oA := ownsRow_same orow sA.drew (fun _ _ h => h)
        have hs1 := (H.out.lt).2.2
        obtain ⟨v', w6, hrun, hown6, hsame6, hblk6⟩ := run_append_same (P := Try.prog) ((w2.alloc (.cells #[.int .i64 (last + 1), .int .i64 pid, .int .i64 1, .int .i64 p.uid, .int .i64 p.gid, .string ⟨#[]⟩, .int .i64 0, .bool false] 34)).drew) s 48 48 34 i0 Pr.zero 8 72 Try.underlying48 hi0 hq0 hq1 hq2 rfl (by decide) _ _ _ oA ⟨w2.heap.size, 0, none⟩ 1 1 [.int .i64 (last + 1), .int .i64 pid, .int .i64 1, .int .i64 p.uid, .int .i64 p.gid, .string ⟨#[]⟩, .int .i64 0, .bool false] rfl
          (fun j u hu => by rw [World.cell?_drew]; exact cells_new rfl hu) (by simp [Value.oneCell']) (by unfold maxLen; omega) (by omega) (by have := hlt.2.1; simp; omega)
        obtain ⟨g', cap', rfl⟩ := own_row_succ hown6
        have v0 := sA.cell u0 (fun h => h)
        have v1 := sA.cell u1 (fun h => h)
        have v3 := sA.cell p3 (fun h => h)
        have v4 := sA.cell p4 (fun h => h)
        have x0 := hsame6.cell (sA.drew.cell u0 (fun h => h)) (by simp only [Value.ownBlock, Option.some.injEq]; omega)
        have x1 := hsame6.cell (sA.drew.cell u1 (fun h => h)) (by simp only [Value.ownBlock, Option.some.injEq]; omega)
        have xz := hsame6.unfrozen (sA.drew.cell u0 (fun h => h)) (sA.drew.unfrozen u0 uz (fun h => h)) (by simp only [Value.ownBlock, Option.some.injEq]; omega)
        have xz1 := hsame6.unfrozen (sA.drew.cell u1 (fun h => h)) (sA.drew.unfrozen u1 uz1 (fun h => h)) (by simp only [Value.ownBlock, Option.some.injEq]; omega)
        have hg' := hblk6 g' rfl
        have X := Lib.hid (And.intro hown6 (And.intro hsame6 (And.intro hg' (And.intro x1 (And.intro xz1 (And.intro hs2 (And.intro hz2 sA)))))))
        have hrl2 : r < w2.heap.size := by omega
        have hgl2 : g < w2.heap.size := by omega
        clear hown6 hsame6 hg' x1 xz1 hs2 hz2 sA oA orow uz uz1 hw2 hblk6 hc0 hc1 c2 z2
        apply wp_to (X := w6.setCell ⟨r, 0, none⟩ (.slice (some ⟨g', 0, none⟩) (n + 1) cap'))
        case h1 =>
          go_region_law (refine step_append_run rfl (.tmp 46) (.tmp 61) 48 rfl _ _ rfl rfl hrun ?_)
          all_goals exact ⟨rfl, rfl⟩
        obtain ⟨hown6, hsame6, hg', x1, xz1, hs2, hz2, sA⟩ := X.out
        have sF : Same (· = r) w6 (w6.setCell ⟨r, 0, none⟩ (.slice (some ⟨g', 0, none⟩) (n + 1) cap')) := (Same.refl (· = r) _).setCell _ (.inr rfl)
        have y1 : (w6.setCell ⟨r, 0, none⟩ (.slice (some ⟨g', 0, none⟩) (n + 1) cap')).cell? ⟨r, 1, none⟩ = some (.int .i64 (last + 1)) := by
          rw [World.cell?_setCell_other _ _ _ _ (by intro e; cases e)]; exact x1
        have hgg : g' = g ∨ w2.heap.size + 1 ≤ g' := by
          rcases hg' with e | e
          · left; have := (show g = g' by simpa [Value.ownBlock] using e); exact this.symm
          · right; simpa using e
        have hgr' : g' ≠ r := by omega
        have hR : RAt s (w6.setCell ⟨r, 0, none⟩ (.slice (some ⟨g', 0, none⟩) (n + 1) cap')) r g' cap' (L ++ [kid last pid p b]) (last + 1) := by
          have hlen : (L ++ [kid last pid p b]).length = n + 1 := by rw [List.length_append, List.length_singleton, ← HN.out]
          refine ⟨?_, by simpa using xz, y1, by simpa using xz1, ?_, hgr', by rw [hlen]; omega⟩
          · rw [hlen]; exact World.cell?_setCell_same _ _ _ x0
          · rw [hlen]
            have hfl : flat (L ++ [kid last pid p b]) = flat L ++ [.int .i64 (last + 1), .int .i64 pid, .int .i64 1, .int .i64 p.uid, .int .i64 p.gid, .string ⟨#[]⟩, .int .i64 0, .bool false] := by
              unfold flat
              rw [List.flatMap_append]
              rfl
            rw [hfl]
            exact ownsRow_same hown6 sF (fun gx hgx e => by have := (show g' = gx by simpa [Value.ownBlock] using hgx); omega)
        have hS : Same (fun k => k = r ∨ k = g) w1 (w6.setCell ⟨r, 0, none⟩ (.slice (some ⟨g', 0, none⟩) (n + 1) cap')) :=
          (((hs2.mono (fun _ _ e => .inl e)).trans ((sA.drew).mono (fun _ _ h => h.elim))).trans (hsame6.mono (fun k _ e => .inr (show k = g by have := (show g = k by simpa [Value.ownBlock] using e); exact this.symm)))).trans (sF.mono (fun _ _ e => .inl e))
        have FIN := Lib.hid (And.intro hR hS)
        clear hown6 hsame6 hg' x1 xz1 hs2 sA sF hR hS hrun x0 xz v0 v1 v3 v4 u0 u1 p3 p4
        go_wp2
        go_ret2
        exact ⟨rfl, g', cap', FIN.out.1, by omega, FIN.out.2⟩
    · have hx1 : (p.st == 1) = false := by simpa using e1
      simp only [e1, if_false]
      clear h h1 h2 hp hn
      go_enter Try.func31, Try.ntmps31
      go_wp2_with fail
      refine ha.mono ?_
      rintro e w1 ⟨rfl, rfl⟩
      go_wp2
      go_ret2
      exact ⟨rfl, hrq⟩
end Go.Proofs.Ytaeabeofpkfadaa
