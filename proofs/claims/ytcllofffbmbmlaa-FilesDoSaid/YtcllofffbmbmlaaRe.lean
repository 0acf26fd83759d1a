/- files: the reference's Fork. Conditions: its form. -/
import Derived.Test.YtcllofffbmbmlaaRd
namespace Go.Proofs.Ytcllofffbmbmlaa
open Go.RowKit Go.Shelf
attribute [local go_sem] Oper.semAt_some

theorem run_append_none {P : Program} (w : World) (base : Nat) (t ty e : TypeId) (i : TypeInfo) (ht : P.underlying t = some (.slice e)) (hi : P.info? e = some i) (size : Nat)
    (v : Value) (n : Nat) (xs : List Value) (hown : w.ownsRow base e size v n xs) : (Builtin.append_ #[t, t] ty #[v, .slice none 0 0]).run P w = .ok v w := by
  rcases hown.2 with ⟨rfl, rfl⟩ | ⟨g, cap, cur, rfl, hbg, hg, hnc, hcm, hcs, htake⟩
  · simp [Builtin.append_, run_underlying ht, sizeOf, typeInfo, hi, Builtin.lenOf, Builtin.firstCells, loadCells, loadCellsFrom]
  · simp [Builtin.append_, run_underlying ht, sizeOf, typeInfo, hi, Builtin.lenOf, Builtin.firstCells, loadCells, loadCellsFrom, hnc, storeCells]
theorem RAt.pushV {s : Nat} {w w1 : World} {r : Nat} {ao : Option Addr} {cap : Nat} {R : List Fr} {last : Nat} (h : RAt s w r ao cap R last) (X : List Fr) (hlen : R.length + X.length ≤ 1000) (hs : Same (fun _ => False) w w1) (b0 : Nat) (a2 : Option Addr) (c2 : Nat)
    (hb : w1.ownsRow b0 75 5 (.slice a2 X.length c2) X.length (ffl X)) :
    ∃ ao' cap' w6, (Builtin.append_ #[49, 49] 49 #[.slice ao R.length cap, .slice a2 X.length c2]).run Try.prog w1 = .ok (.slice ao' (R ++ X).length cap') w6 ∧ w6.cell? ⟨r, 0, none⟩ = some (.slice ao R.length cap) ∧ w6.frozen? ⟨r, 0, none⟩ = false ∧
      RAt s (w6.setCell ⟨r, 0, none⟩ (.slice ao' (R ++ X).length cap')) r ao' cap' (R ++ X) last ∧ Same (ROwn s w) w (w6.setCell ⟨r, 0, none⟩ (.slice ao' (R ++ X).length cap')) := by
  rcases own_nil_or hb with ⟨rfl, h0, rfl⟩ | ⟨g, rfl⟩
  · have hX : X = [] := List.eq_nil_of_length_eq_zero h0
    subst hX
    obtain ⟨i0, hi0, hq0, hq1, hq2⟩ := info_parts Try.info75
    have h1 := h.same0 hs
    rw [List.append_nil]
    have hc := h.cut (R' := R) hs rfl h.len h1.row
    exact ⟨ao, cap, w1, run_append_none w1 s 49 49 75 i0 Try.underlying49 hi0 5 _ _ _ h1.row, h1.c0, h1.z0, hc.1, hc.2⟩
  · exact h.pushN X hlen hs ⟨g, 0, none⟩ c2 (fun j u hu => hb.cells (g := g) rfl j u hu)
/-- The child's rows. -/
def kids (R : List Fr) (p c : Int) : List Fr := (R.filter (fun x => decide (x.pid = p))).map (fun x => ⟨c, x.fd, x.file, x.kind, x.thing⟩)
theorem kids_succ {R : List Fr} {p c : Int} {i : Nat} {x : Fr} (hx : R[i]? = some x) : kids (R.take (i + 1)) p c = kids (R.take i) p c ++ if x.pid = p then [⟨c, x.fd, x.file, x.kind, x.thing⟩] else [] := by
  unfold kids
  rw [List.take_add_one, hx, List.filter_append, List.map_append]
  congr 1
  by_cases e : x.pid = p <;> simp [e]
theorem kids_le (R : List Fr) (p c : Int) (i : Nat) : (kids (R.take i) p c).length ≤ i := by
  unfold kids
  rw [List.length_map]
  exact Nat.le_trans (List.length_filter_le _ _) (List.length_take_le _ _)
inductive ForkF (R : List Fr) (p c : Int) : List Fr → Int → Prop
  | arg : p < 1 ∨ c < 1 → ForkF R p c R 2
  | some (x : Fr) : 1 ≤ p → 1 ≤ c → x ∈ R → x.pid = c → ForkF R p c R 2
  | ok : 1 ≤ p → 1 ≤ c → (∀ x ∈ R, x.pid ≠ c) → ForkF R p c (ffork R p c) 0
set_option maxHeartbeats 3200000 in
set_option maxRecDepth 16384 in
theorem rfork_any {s : Nat} {w : World} {r : Nat} {ao : Option Addr} {cap : Nat} {R : List Fr} {last : Nat} (h : RAt s w r ao cap R last) (p c : Int) (hln : R.length + (kids R p c).length ≤ 1000) :
    Calls Try.prog 31 #[.pointer (some ⟨r, 0, none⟩), .int .i64 p, .int .i64 c] w fun e w' => ∃ R' er, e = .returned (.int .i64 er) ∧ ForkF R p c R' er ∧ RStep s w r R' last w' := by
  have HST := Lib.hid (h.stay (Same.refl _ w))
  by_cases hp : p < 1
  · clear h
    go_enter Try.func31, Try.ntmps31
    go_wp2
    go_ret
    exact ⟨_, _, rfl, .arg (by omega), HST.out⟩
  · by_cases hc : c < 1
    · have HC := Lib.hid (show p < 1 ∨ c < 1 by omega)
      clear h
      go_enter Try.func31, Try.ntmps31
      go_wp2
      go_ret
      exact ⟨_, _, rfl, .arg HC.out, HST.out⟩
    · have HP := Lib.hid (show 1 ≤ p ∧ 1 ≤ c by omega)
      have H := Lib.hid h
      have hn := h.len
      have hc0 := h.c0
      have hrl := World.block_lt_of_cell? _ _ h.c0
      have hlo := h.lo
      simp only at hrl
      obtain ⟨n, hn'⟩ : ∃ n, n = R.length := ⟨_, rfl⟩
      rw [← hn'] at hn hc0
      have HN := Lib.hid (And.intro hn' hln)
      clear h hn' hln
      go_enter Try.func31, Try.ntmps31
      go_wp2
      go_loopw [7, 8] (fun v7 v8 wx => ∃ (i : Nat) (W : World) (a2 : Option Addr) (c2 : Nat), W = wx ∧ i ≤ n ∧ v8 = .int .i64 i ∧ v7 = .slice a2 (kids (R.take i) p c).length c2 ∧ Hid (W.ownsRow w.heap.size 75 5 (.slice a2 (kids (R.take i) p c).length c2) (kids (R.take i) p c).length (ffl (kids (R.take i) p c)) ∧ (∀ x ∈ R.take i, x.pid ≠ c) ∧ Same (fun _ => False) w W)) (fun _ v8 _ => n - (intOf v8).toNat)
      case atStart => exact ⟨0, _, none, 0, rfl, by omega, rfl, rfl, Lib.hid ⟨World.ownsRow_nil _ _ _ _, by simp, Same.refl _ _⟩⟩
      case round =>
        obtain ⟨i, W, a2, c2, hW, hin, rfl, rfl, HI⟩ := hrel
        subst hW
        have hR := H.out.same0 HI.out.2.2
        have d0 := hR.c0
        rw [← HN.out.1] at d0
        by_cases hil : i < n
        · have hii : (i : Int) < n := by omega
          obtain ⟨x, hx⟩ : ∃ x, R[i]? = some x := ⟨_, List.getElem?_eq_getElem (by have := HN.out.1; omega)⟩
          obtain ⟨g, rfl, hcc⟩ := hR.at_ hx
          have m0 : W.cell? ⟨g, i * 5, none⟩ = some (.int .i64 x.pid) := hcc 0 _ rfl
          have m1 := hcc 1 _ rfl
          have m2 := hcc 2 _ rfl
          have m3 := hcc 3 _ rfl
          have m4 := hcc 4 _ rfl
          have KS := Lib.hid (kids_succ (p := p) (c := c) hx)
          have KL := kids_le R p c i
          have HX := Lib.hid hx
          clear hcc hx
          by_cases e1 : x.pid = c
          · have HE := Lib.hid e1
            rw [e1] at m0
            clear e1 hR
            go_wp2
            go_ret
            exact ⟨_, _, rfl, .some x HP.out.1 HP.out.2 (List.mem_of_getElem? HX.out) HE.out, ⟨_, _, H.out.same0 HI.out.2.2, rown_of HI.out.2.2⟩⟩
          · have e1' : (x.pid == c) = false := by simpa using e1
            have HE := Lib.hid e1
            have hall : ∀ y ∈ R.take (i + 1), y.pid ≠ c := by
              rw [List.take_add_one, HX.out]
              intro y hy
              rcases List.mem_append.1 hy with hy | hy
              · exact HI.out.2.1 y hy
              · simp at hy; subst hy; exact HE.out
            have HALL := Lib.hid hall
            clear e1 hall
            by_cases e2 : x.pid = p
            · have KS2 := KS.out
              rw [if_pos e2] at KS2
              rw [e2] at m0 e1'
              have sA : Same (fun _ => False) W ((W.alloc (.cells #[.int .i64 c, .int .i64 x.fd, .int .i64 x.file, .int .i64 x.kind, .int .i64 x.thing] 75)).alloc (.cells #[.int .i64 c, .int .i64 x.fd, .int .i64 x.file, .int .i64 x.kind, .int .i64 x.thing] 75)) := (same_alloc _).alloc _
              obtain ⟨i0, hi0, hq0, hq1, hq2⟩ := info_parts Try.info75
              have hsz := HI.out.2.2.size
              obtain ⟨v', w6, hrun, hown6, hsame6⟩ := run_append_same (P := Try.prog) _ w.heap.size 49 49 75 i0 Fr.zero 5 40 Try.underlying49 hi0 hq0 hq1 hq2 Fr.zero_size (by decide) _ _ _ (ownsRow_same HI.out.1 sA (fun _ _ h => h)) ⟨W.heap.size + 1, 0, none⟩ 1 1 [.int .i64 c, .int .i64 x.fd, .int .i64 x.file, .int .i64 x.kind, .int .i64 x.thing] rfl (fun j u hu => cells_new (by simp) hu) (vals_one ⟨c, x.fd, x.file, x.kind, x.thing⟩) (by unfold maxLen; omega) (by omega) (by simp; omega)
              obtain ⟨a3, c3, rfl, -⟩ := own_row_any2 hown6
              have hkl : (kids (R.take (i + 1)) p c).length = (kids (R.take i) p c).length + 1 := by rw [KS2, List.length_append]; rfl
              have hrow : w6.ownsRow w.heap.size 75 5 (.slice a3 (kids (R.take (i + 1)) p c).length c3) (kids (R.take (i + 1)) p c).length (ffl (kids (R.take (i + 1)) p c)) := by
                rw [hkl, KS2, ffl_append]
                exact hown6
              have hs6 : Same (fun _ => False) w w6 := (HI.out.2.2.trans sA).trans' hsame6 (fun k e hk => by have := (ownsRow_shape HI.out.1 e).1; omega)
              have FIN := Lib.hid (And.intro hrow (And.intro HALL.out hs6))
              have HKL := Lib.hid hkl
              have HRUN := Lib.hid hrun
              clear hrow hs6 hown6 hsame6 hkl hrun sA KS2 hR e2
              go_wp2_with (at_builtin; refine wpList_append_run rfl (.tmp 54) (.tmp 56) 49 rfl _ _ rfl rfl HRUN.out ?_)
              go_round
              case rel => exact ⟨i + 1, _, a3, c3, rfl, by omega, by go_num, by rw [HKL.out], FIN.out⟩
              case measure => simp [intOf]; omega
            · have e2' : (x.pid == p) = false := by simpa using e2
              have KS2 := KS.out
              rw [if_neg e2, List.append_nil] at KS2
              have HK := Lib.hid KS2
              clear e2 KS2 hR
              go_wp2
              go_round
              case rel => exact ⟨i + 1, _, a2, c2, rfl, by omega, by go_num, by rw [HK.out], Lib.hid (by rw [HK.out]; exact ⟨HI.out.1, HALL.out, HI.out.2.2⟩)⟩
              case measure => simp [intOf]; omega
        · obtain rfl : i = n := by omega
          have htk : R.take i = R := by rw [HN.out.1, List.take_length]
          have HI2 := HI.out
          rw [htk] at HI2 ⊢
          obtain ⟨ao', cap', w6, hrun, x0, xz, hR6, hs6⟩ := H.out.pushV (kids R p c) HN.out.2 HI2.2.2 _ _ _ HI2.1
          rw [List.length_append] at hrun hR6 hs6
          rw [← HN.out.1] at hrun x0 hR6 hs6
          have HRUN := Lib.hid hrun
          have hfk : ffork R p c = R ++ kids R p c := rfl
          have FIN := Lib.hid (show ForkF R p c (ffork R p c) 0 ∧ RStep s w r (ffork R p c) last _ from ⟨.ok HP.out.1 HP.out.2 HI2.2.1, ⟨_, _, hR6, hs6⟩⟩)
          clear hrun hR6 hs6 HI2 hR hfk htk
          go_wp2_with (at_builtin; refine wpList_append_run rfl (.tmp 62) (.tmp 63) 49 rfl _ _ rfl rfl HRUN.out ?_)
          go_ret
          exact ⟨_, _, rfl, FIN.out⟩
end Go.Proofs.Ytcllofffbmbmlaa
