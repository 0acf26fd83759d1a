/- undo: a table's keys collected. Condition: the table's size. -/
import Derived.Test.YtcnocfboklhjnaaKy
import Derived.Lib.Hide
namespace Go.Proofs.Ytcnocfboklhjnaa
open Go.RowKit Go.Shelf
attribute [local go_sem] Oper.semAt_some

def flat2 (ks : List (Int × Int)) : List Value := ks.flatMap fun p => [.int .i64 p.1, .int .i64 p.2]
theorem flat2_append (a b : List (Int × Int)) : flat2 (a ++ b) = flat2 a ++ flat2 b := by simp [flat2]
theorem Try.info58 : (Try.prog.info? 58).map (fun i => (i.zero, i.size, i.bytes)) = some (some (.agg #[.int .i64 0, .int .i64 0]), 2, 16) := by kernel_rfl
theorem keys_any (w : World) (m : Nat) :
    Calls Try.prog 53 #[.map (some m)] w fun e w' => e = .returned (.func (.func 57) #[] #[.pointer (some ⟨w.heap.size, 0, none⟩)]) ∧ w' = w.alloc (.cells #[.map (some m)] 55) := by
  go_enter Try.func53, Try.ntmps53
  go_wp2
  go_ret
  exact ⟨rfl, rfl⟩
theorem append_seq (w : World) (bx m : Nat) (al : List ((Int × Int) × Value)) (hb : w.cell? ⟨bx, 0, none⟩ = some (.map (some m))) (hm : MapIs kvp w m al) (hlen : al.length ≤ 1000) :
    Calls Try.prog 58 #[.slice none 0 0, .func (.func 57) #[] #[.pointer (some ⟨bx, 0, none⟩)]] w fun e w' => ∃ v ks, e = .returned v ∧ ks.Perm (al.map (·.1)) ∧ w'.ownsRow w.heap.size 58 2 v ks.length (flat2 ks) ∧ Same (fun _ => False) w w' := by
  obtain ⟨i58, hi58, hz58⟩ : ∃ i, Try.prog.info? 58 = some i ∧ (i.zero, i.size, i.bytes) = (some (.agg #[.int .i64 0, .int .i64 0]), 2, 16) := by
    have := Try.info58
    cases h : Try.prog.info? 58 with
    | none => rw [h] at this; simp at this
    | some i => rw [h] at this; exact ⟨i, rfl, by simpa using this⟩
  simp only [Prod.mk.injEq] at hz58
  obtain ⟨hz1, hz2, hz3⟩ := hz58
  have hbx := World.block_lt_of_cell? _ _ hb
  have hmlt := hm.lt
  refine (callsIn_wide (n := 0)).1 ?_
  refine callsIn_of_wp_marks Try.func58 rfl trivial ?_ rfl
  simp only [Try.ntmps58, List.size_toArray, List.length_cons, List.length_nil, Nat.reduceAdd, Nat.reduceSub, Array.replicate_succ, Array.replicate_zero, List.push_toArray, List.append_toArray, List.nil_append, List.cons_append]
  gi_wp2
  refine range_wide (gf := 57) (lb := #[.pointer (some ⟨bx, 0, none⟩)]) rfl (enters_of Try.func57 (by kernel_rfl) rfl) ?_
  intro rec D L W1 hD hL hrule hs1 hl1 hd1 _
  simp only [World.size_alloc] at hD
  have hc0 : W1.cell? ⟨w.heap.size, 0, none⟩ = some (.slice none 0 0) := hs1.cell (by simp [go_sem]) (by simp)
  have hf0 : W1.frozen? ⟨w.heap.size, 0, none⟩ = false := (hs1.frozen (by simp) (by simp)).trans (by simp [go_sem])
  have hb0 : W1.cell? ⟨bx, 0, none⟩ = some (.map (some m)) := hs1.cell ((same_alloc _).cell hb (by simp)) (by simp)
  have hm0 : MapIs kvp W1 m al := (hm.same (same_alloc _) (by simp)).same hs1 (by simp)
  have hL1 := (Array.getElem?_eq_some_iff.1 hl1).1
  have hs2 : Same (fun k => w.heap.size ≤ k) w W1 := ((Same.refl _ w).alloc _).trans (hs1.mono (by simp))
  have hW1 := hs1.size
  simp only [World.size_alloc] at hW1
  refine Calls.mono (keys1 L bx m al (fun ks W => W1.heap.size ≤ W.heap.size ∧ ∃ v, W.cell? ⟨w.heap.size, 0, none⟩ = some v ∧ W.frozen? ⟨w.heap.size, 0, none⟩ = false ∧ W.ownsRow (W1.heap.size + 1) 58 2 v ks.length (flat2 ks) ∧
      Same (fun k => w.heap.size ≤ k) w W ∧ W.heap[L]? = some (rec .ready none) ∧ W.heap[D]? = some (.deferred (some []))) W1 hb0 hm0 ?_ ?_ ⟨Nat.le_refl _, .slice none 0 0, hc0, hf0, World.ownsRow_nil .., hs2, hl1, hd1⟩) ?_
  · rintro ks W W' ⟨h1, v, h2, h3, h4, h5, h6, h7⟩ hs
    have := hs.size
    refine ⟨by omega, v, hs.cell h2 (by simp; omega), hs.unfrozen h2 h3 (by simp; omega), ownsRow_same h4 hs (fun g hg e => by have := (ownsRow_shape h4 hg).1; omega), h5.trans (hs.mono (fun k _ e => by omega)), hs.block h6 (by omega), hs.block h7 (by omega)⟩
  · rintro ks k W ⟨h1, v, h2, h3, h4, h5, h6, h7⟩ hlt hgr
    have HR := Lib.hid h4
    clear h4
    refine hrule W _ _ h6 rfl ?_
    gi_wp2
    refine ⟨(same_alloc _).block h6 (by simp), ?_⟩
    intro W2 hq _ hl2
    have hsA : Same (fun _ => False) W (W.alloc (.cells #[.int .i64 k.1, .int .i64 k.2] 58)) := same_alloc _
    have hqa : Same (· = L) W W2 := (hsA.mono (fun _ _ h => h.elim)).trans hq
    have hk0 : W2.cell? ⟨W.heap.size, 0, none⟩ = some (.int .i64 k.1) := hq.cell (by simp [go_sem]) (by simp; omega)
    have hk1 : W2.cell? ⟨W.heap.size, 1, none⟩ = some (.int .i64 k.2) := hq.cell (by simp [go_sem]) (by simp; omega)
    have p2 := hqa.cell h2 (by simp; omega)
    have p3 := hqa.unfrozen h2 h3 (by simp; omega)
    have p7 := hqa.block h7 (by omega)
    have pR := ownsRow_same HR.out hqa (fun g hg e => by have := (ownsRow_shape HR.out hg).1; omega)
    have HR2 := Lib.hid pR
    have hW2 := hqa.size
    clear pR hq hsA
    rename_i hzw
    clear hzw
    gi_wp2_with (gi_at_builtin; refine stop_intro ?_)
    unfold Stop
    refine wpListIn_append_same rfl _ _ 74 rfl (W1.heap.size + 1) 58 i58 (.agg #[.int .i64 0, .int .i64 0]) 2 16 Try.underlying74 hi58 hz1 hz2 hz3 rfl (by decide) _ _ _ rfl (HR2.out.alloc _) ⟨W2.heap.size, 0, none⟩ 1 1 [.int .i64 k.1, .int .i64 k.2] (by rfl) (by rfl) ?c1 ?c2 ?c3 ?c4 ?c5 ?_
    case c1 =>
      intro j u hu
      exact cells_new rfl hu
    case c2 => simp [Value.oneCell']
    case c3 => unfold maxLen; omega
    case c4 => omega
    case c5 => simp; omega
    intro v' V6 hown' hsame hfr
    obtain ⟨g', cap', rfl⟩ := own_row_succ hown'
    have hsA : Same (fun _ => False) W2 (W2.alloc (.cells #[.int .i64 k.1, .int .i64 k.2] 58)) := same_alloc _
    have hnb : ∀ b, b < W1.heap.size + 1 → ¬ v.ownBlock = some b := fun b hb h => by
      have h1 := (ownsRow_shape HR2.out h).1
      omega
    have y8 := hsame.cell (hsA.cell p2 (by simp)) (hnb _ (by simp only; omega))
    have y9 := hsame.unfrozen (hsA.cell p2 (by simp)) (hsA.unfrozen p2 p3 (by simp)) (hnb _ (by simp only; omega))
    have hsC : Same (fun b => v.ownBlock = some b) W2 V6 := (hsA.mono (fun _ _ h => h.elim)).trans hsame
    have hg' := (ownsRow_shape hown' rfl).1
    have HO := Lib.hid hown'
    clear hown' hsame hsA
    gi_wp2
    have hsD : Same (· = w.heap.size) V6 (V6.setCell ⟨w.heap.size, 0, none⟩ (.slice (some ⟨g', 0, none⟩) (ks.length + 1) cap')) := (Same.refl _ _).setCell _ (.inr rfl)
    have hSD := (hsC.mono (T := fun b => v.ownBlock = some b ∨ b = w.heap.size) (fun _ _ h => .inl h)).trans (hsD.mono (fun b _ h => .inr h))
    have hno : ∀ b, b < W1.heap.size + 1 → b ≠ w.heap.size → ¬ (v.ownBlock = some b ∨ b = w.heap.size) := fun b hb hb2 h => h.elim (hnb b hb) hb2
    have hV7 := hSD.size
    refine ⟨hSD.block hl2 (hno L (by omega) (by omega)), fun W8 hs8 hz8 hl8 => ⟨rfl, ⟨by omega, ?_⟩, by omega, ?_, ?_⟩⟩
    · rw [flat2_append]
      refine ⟨_, hs8.cell (World.cell?_setCell_same _ _ _ y8) (by simp; omega), hs8.unfrozen (World.cell?_setCell_same _ _ _ y8) (by simpa using y9) (by simp; omega),
        ownsRow_same (ownsRow_same HO.out hsD (fun g hg e => by simp only [Value.ownBlock, Option.some.injEq] at hg; omega)) hs8 (fun g hg e => by simp only [Value.ownBlock, Option.some.injEq] at hg; omega), ?_, hl8, ?_⟩
      · exact ((h5.trans (hqa.mono (fun k _ e => by omega))).trans (hSD.mono (T := fun k => w.heap.size ≤ k) (fun b _ h => h.elim (fun h => by have := (ownsRow_shape HR2.out h).1; omega) (fun h => by omega)))).trans (hs8.mono (fun b _ h => by omega))
      · exact hs8.block (hSD.block p7 (hno _ (by omega) (by omega))) (by omega)
    · rw [hs8.old _ (by omega) (by omega), hSD.old _ (by omega) (hno _ (by omega) (by omega)), hqa.old _ (by omega) (by omega)] <;> exact Array.getElem?_eq_getElem _
    · rw [hs8.old _ (by omega) (by omega), hSD.old _ (by omega) (hno _ (by omega) (by omega)), hqa.old _ (by omega) (by omega)] <;> exact Array.getElem?_eq_getElem _
  · rintro e W ⟨⟨v0, rfl⟩, ks, hp, h1, v, h2, h3, h4, h5, h6, h7⟩
    refine ⟨⟨_, rfl⟩, .inl ⟨h6, fun W2 hs2 _ => ?_⟩⟩
    have hc2 := hs2.cell h2 (by simp; omega)
    have hd2 := hs2.block h7 (by omega)
    have hR2 := ownsRow_same h4 hs2 (fun g hg e => by have := (ownsRow_shape h4 hg).1; omega)
    have hs3 := h5.trans (hs2.mono (fun k _ e => by omega))
    have HR := Lib.hid hR2
    have HP := Lib.hid hp
    clear h4 hR2 hp
    gi_wp2
    refine leaves_mark hd2 fun W3 hs4 _ => ⟨results_tmp rfl _ _ _, ?_⟩
    exact ⟨v, rfl, ks, HP.out, ownsRow_base (ownsRow_same HR.out hs4 (fun g hg e => by have := (ownsRow_shape HR.out hg).1; omega)) (by omega), (hs3.trans (hs4.mono (fun k _ e => by omega))).mono (fun k h h' => by omega)⟩
theorem collect_any (w : World) (bx m : Nat) (al : List ((Int × Int) × Value)) (hb : w.cell? ⟨bx, 0, none⟩ = some (.map (some m))) (hm : MapIs kvp w m al) (hlen : al.length ≤ 1000) :
    Calls Try.prog 55 #[.func (.func 57) #[] #[.pointer (some ⟨bx, 0, none⟩)]] w fun e w' => ∃ v ks, e = .returned v ∧ ks.Perm (al.map (·.1)) ∧ w'.ownsRow w.heap.size 58 2 v ks.length (flat2 ks) ∧ Same (fun _ => False) w w' := by
  have h := append_seq w bx m al hb hm hlen
  clear hb hm
  go_enter Try.func55, Try.ntmps55
  go_wp2_with fail
  refine h.mono ?_
  rintro e w1 ⟨v, ks, rfl, h1, h2, h3⟩
  go_wp2
  go_ret
  exact ⟨v, ks, rfl, h1, h2, h3⟩
end Go.Proofs.Ytcnocfboklhjnaa
