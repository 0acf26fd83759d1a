/- undo: list. Condition: the table holds adjustments. -/
import Derived.Test.YtcnocfboklhjnaaTa
import Derived.Deep.RegionLaw
namespace Go.Proofs.Ytcnocfboklhjnaa
open Go.RowKit Go.Shelf
attribute [local go_sem] Oper.semAt_some

theorem step_append_run {P : Program} {ops : Array Oper} {o : Oper} {a : Act} {w w' : World} {K : Act → World → Prop} {Q : Exit → Act → World → Prop} {E : Prop} {v' : Value}
    (hg : o.guard = none) (s x : Operand) (t : TypeId) (hop : o.op = Op.call { callee := Callee.builtin Builtin.append, args := #[s, x], argTypes := #[t, t] }) (vs vx : Value) (hs : a.eval s = vs) (hx : a.eval x = vx)
    (hrun : (Builtin.append_ #[t, t] o.type #[vs, vx]).run P w = .ok v' w') (hK : K (a.put o.dst v') w') :
    if Region.wanted o (yielded ops a.tmps) = true then Oper.wp P o a w K Q else E := by
  have hw : Region.wanted o (yielded ops a.tmps) = true := by simp [Region.wanted, hg]
  rw [if_pos hw]
  unfold Oper.wp
  simp [execOp, hop, resolve, invoke, builtin, hs, hx, hrun, Result.andThen]
  exact hK
def flat3 (l : List Tri) : List Value := l.flatMap fun t => [.int .i64 t.id, .int .i64 t.num, .int .i64 t.n]
theorem flat3_append (a b : List Tri) : flat3 (a ++ b) = flat3 a ++ flat3 b := by simp [flat3]
theorem Try.info45 : (Try.prog.info? 45).map (fun i => (i.zero, i.size, i.bytes)) = some (some (.agg #[.int .i64 0, .int .i64 0, .int .i64 0]), 3, 24) := by kernel_rfl
theorem info45 : ∃ i, Try.prog.info? 45 = some i ∧ i.zero = some (.agg #[.int .i64 0, .int .i64 0, .int .i64 0]) ∧ i.size = 3 ∧ i.bytes = 24 := by
  have := Try.info45
  cases h : Try.prog.info? 45 with
  | none => rw [h] at this; simp at this
  | some i => rw [h] at this; exact ⟨i, rfl, by simpa using this⟩
theorem lk55 {W : World} {m : Nat} {al : List ((Int × Int) × Value)} {l : List Tri} (hm : MapIs kvp W m al) (hT : Un.TabR al l) (p : Int × Int) :
    (Instr.lookup 55 (.map (some m)) (kvp p) false).run Try.prog W = .ok (.int .i64 (Un.ofN l p.1 p.2)) W := by
  rw [run_lookup_is (P := Try.prog) (T := 55) (K := 58) (E := 3) Try.underlying55 key58 (z := .int .i64 0) (fun _ => by kernel_rfl) hm p false, hT.get]
  by_cases h : Un.ofN l p.1 p.2 = 0
  · simp [h]
  · simp [h]
set_option maxHeartbeats 1600000 in
set_option maxRecDepth 100000 in
theorem list_any {w : World} {m : Nat} {al : List ((Int × Int) × Value)} {l : List Tri} (hm : MapIs kvp w m al) (hT : Un.TabR al l) (hl : Un.RightL l) (hlen : al.length ≤ 1000) :
    Calls Try.prog 32 #[.map (some m)] w fun e w' => ∃ v, e = .returned v ∧ w'.ownsRow w.heap.size 45 3 v l.length (flat3 l) ∧ Same (fun _ => False) w w' := by
  have hso := sorted_any hm hT hl hlen
  obtain ⟨i45, hi45, hz1, hz2, hz3⟩ := info45
  have hll := hT.len hl
  have HT := Lib.hid hT
  have HL := Lib.hid hl
  have HM := Lib.hid hm
  have hmlt := hm.lt
  clear hT hl hm
  go_enter Try.func32, Try.ntmps32
  go_wp2_with fail
  refine hso.mono ?_
  rintro e w1 ⟨v, rfl, hs1, hv⟩
  have hs1' : Same (fun b => w.heap.size ≤ b) w w1 := hs1.mono (fun _ _ h => h.elim)
  rcases hv with ⟨rfl, rfl⟩ | ⟨g, c, rfl, hg, hg2, hc⟩
  · go_wp2
    go_loopw [3, 9] (fun v3 v9 wx => v3 = .slice none 0 0 ∧ v9 = .int .i64 0 ∧ wx = w1) (fun _ _ _ => 0)
    case atStart => exact ⟨rfl, rfl, rfl⟩
    case round =>
      obtain ⟨rfl, rfl, rfl⟩ := hrel
      go_wp2
      go_ret
      exact ⟨_, rfl, World.ownsRow_nil .., hs1⟩
  · obtain ⟨n, hn⟩ : ∃ n, n = l.length := ⟨_, rfl⟩
    rw [← hn] at hll ⊢
    have HC := Lib.hid hc
    have HN := Lib.hid hn
    have HS1 := Lib.hid hs1'
    have hz1' := hs1.size
    clear hc hn hs1 hs1' hso
    go_wp2
    go_loopw [3, 9] (fun v3 v9 wx => ∃ (i : Nat) (W : World), W = wx ∧ i ≤ n ∧ v9 = .int .i64 i ∧ W.ownsRow w1.heap.size 45 3 v3 i (flat3 (l.take i)) ∧ Same (fun b => w1.heap.size ≤ b) w1 W) (fun _ v9 _ => n - (intOf v9).toNat)
    case atStart => exact ⟨0, _, rfl, by omega, rfl, World.ownsRow_nil .., Same.refl _ _⟩
    case round =>
      obtain ⟨i, W, hW, hi, rfl, hown, hs⟩ := hrel
      subst hW
      have HO := Lib.hid hown
      have HS := Lib.hid hs
      have hzs := hs.size
      by_cases hin : i < n
      · have hii : (i : Int) < n := by omega
        obtain ⟨t, ht⟩ : ∃ t, l[i]? = some t := ⟨_, List.getElem?_eq_getElem (by have := HN.out; omega)⟩
        obtain ⟨c0, c1⟩ := HC.out i t ht
        have d0 := hs.cell c0 (by simp; omega)
        have d1 := hs.cell c1 (by simp; omega)
        have hmW : MapIs kvp ((W.alloc (.cells #[.int .i64 t.id, .int .i64 t.num] 58)).drew) m al := (((HM.out.same HS1.out (by omega)).same hs (by omega)).same (same_alloc _).drew (fun h => h))
        have hlk := lk55 hmW HT.out (t.id, t.num)
        rw [show Un.ofN l (t.id, t.num).1 (t.id, t.num).2 = t.n from Un.ofN_mem HL.out.asc (List.mem_of_getElem? ht)] at hlk
        have HX := Lib.hid ht
        obtain ⟨WA, hWA⟩ : ∃ WA, WA = W.alloc (.cells #[.int .i64 t.id, .int .i64 t.num] 58) := ⟨_, rfl⟩
        have a0 : WA.cell? ⟨W.heap.size, 0, none⟩ = some (.int .i64 t.id) := by rw [hWA]; simp [go_sem]
        have a1 : WA.cell? ⟨W.heap.size, 1, none⟩ = some (.int .i64 t.num) := by rw [hWA]; simp [go_sem]
        have hsA : Same (fun _ => False) W WA := by rw [hWA]; exact same_alloc _
        have HA := Lib.hid hsA
        rw [← hWA] at hlk
        have hsB : Same (fun _ => False) WA (WA.alloc (.cells #[.int .i64 t.id, .int .i64 t.num, .int .i64 t.n] 45)) := same_alloc _
        have oA := ownsRow_same (ownsRow_same hown hsA (fun _ _ h => h)) hsB.drew (fun _ _ h => h)
        have hzA := hsA.size
        obtain ⟨v', w6, hrun, hown6, hsame6, -⟩ := run_append_same (P := Try.prog) ((WA.alloc (.cells #[.int .i64 t.id, .int .i64 t.num, .int .i64 t.n] 45)).drew) w1.heap.size 22 22 45 i45 (.agg #[.int .i64 0, .int .i64 0, .int .i64 0]) 3 24 Try.underlying22 hi45 hz1 hz2 hz3 rfl (by decide) _ i _ oA
          ⟨WA.heap.size, 0, none⟩ 1 1 [.int .i64 t.id, .int .i64 t.num, .int .i64 t.n] (by rfl) (fun j u hu => by rw [World.cell?_drew]; exact cells_new rfl hu) (by simp [Value.oneCell']) (by unfold maxLen; omega) (by omega) (by simp; omega)
        have HR6 := Lib.hid (And.intro hown6 (And.intro hsame6 (And.intro hsB hown)))
        clear hmW ht hown hs hsA c0 c1 hown6 hsame6 hsB oA
        go_wp2_with fail
        rw [← hWA]
        clear hWA
        go_region_law (refine step_append_run rfl (.tmp 13) (.tmp 22) 22 rfl _ _ rfl rfl hrun ?_)
        all_goals go_wp2
        all_goals go_round
        all_goals first
          | (simp [intOf]; omega)
          | (obtain ⟨hown6, hsame6, hsB, hown⟩ := HR6.out
             refine ⟨i + 1, _, rfl, by omega, by go_num, ?_, ((HS.out.trans (HA.out.mono (fun _ _ h => h.elim))).trans (hsB.drew.mono (fun _ _ h => h.elim))).trans (hsame6.mono (fun b _ h => (ownsRow_shape hown h).1))⟩
             rw [List.take_add_one, HX.out, flat3_append]
             exact hown6)
      · obtain rfl : i = n := by omega
        clear hown hs
        go_wp2
        go_ret
        have h1 := HO.out
        have h2 := HS.out.size
        rw [HN.out, List.take_length] at h1
        refine ⟨_, rfl, ?_, (HS1.out.trans (HS.out.mono (fun b hb => by omega))).mono (fun b hb h => by omega)⟩
        rw [HN.out]
        exact ownsRow_base h1 hz1'
end Go.Proofs.Ytcnocfboklhjnaa
