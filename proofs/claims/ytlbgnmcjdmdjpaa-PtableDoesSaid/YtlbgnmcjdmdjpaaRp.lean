/- The reference's Pages. Conditions: the memory's form. -/
import Derived.Test.YtlbgnmcjdmdjpaaRo
import Derived.Test.YtlbgnmcjdmdjpaaAp
namespace Go.Proofs.Ytlbgnmcjdmdjpaa
open Go.RowKit Go.Shelf
attribute [local go_sem] Oper.semAt_some

theorem Mm.check_page {M : Mm} {root : Int} (h : M.check root 0 = 0) {p : Nat} (hp : p < 256) : M.check root p = 0 := by
  unfold Mm.check at h ⊢
  split at h
  · rename_i hu; rw [if_pos hu, if_pos (by omega)]
  · omega

set_option maxHeartbeats 3200000 in
set_option maxRecDepth 16384 in
theorem rpages_ok {w : World} {r rb rr : Nat} {M : Mm} (h : RefAt w r rb rr M) (root : Int) (hc : M.check root 0 = 0) :
    Calls Try.prog 33 #[.pointer (some ⟨r, 0, none⟩), .int .i64 root] w fun e w' => ∃ v, e = .returned (.tuple #[v, .int .i64 0]) ∧ w'.ownsRow w.heap.size 3 1 v (M.pages root).length (ints (M.pages root)) ∧ Same (fun _ => False) w w' := by
  have hrt := right_any h root 0
  have hck := fun (p : Nat) (hp : p < 256) => Mm.check_page hc hp
  rw [hc] at hrt
  have HCK := Lib.hid @hck
  have H := Lib.hid h
  obtain ⟨i3, hi3, hz3, hz31, hz32⟩ := info_parts info3
  have HP := Lib.hid (show M.pages root = M.pgL root 256 from rfl)
  clear hc hck h
  refine (callsIn_wide (n := 0)).1 ?_
  refine callsIn_of_wp Try.func33 rfl trivial ?_ rfl
  simp only [Try.ntmps33, List.size_toArray, List.length_cons, List.length_nil, Nat.reduceAdd, Nat.reduceSub, Array.replicate_succ, Array.replicate_zero, List.push_toArray, List.append_toArray, List.nil_append, List.cons_append]
  gi_wp2_with (gi_at_call 68; refine CallsIn.mono (callsIn_wide.2 hrt) ?_; rintro e w' ⟨rfl, rfl⟩)
  gi_loopw [7, 8] (fun v7 v8 wr => ∃ i : Nat, i ≤ 256 ∧ v8 = .int .i64 i ∧ wr.ownsRow w.heap.size 3 1 v7 (M.pgL root i).length (ints (M.pgL root i)) ∧ Same (fun _ => False) w wr) (fun _ v8 _ => 256 - (intOf v8).toNat)
  case atStart => exact ⟨0, by omega, rfl, World.ownsRow_nil _ _ _ _, Same.refl _ _⟩
  case round =>

    obtain ⟨i, hi, rfl, hrow, hs⟩ := hrel
    have HROW := Lib.hid hrow
    clear hrow
    by_cases hlt : i < 256
    · have hli : (i : Int) < 256 := by omega
      have hwk := rwalk_any (H.out.same0 hs) root i
      have hwl := M.walk_lk root i (HCK.out i hlt)
      have hsu := M.pgL_succ root i
      have hlen := M.pgL_len root i
      obtain ⟨⟨wf, wg, we⟩, hW⟩ : ∃ x, x = M.walk root i := ⟨_, rfl⟩
      rw [← hW] at hwk hwl
      have HWK := Lib.hid hwk
      have HSU := Lib.hid hsu
      clear hwk hW hsu
      by_cases hz : (M.lk root i).1 = 0
      · rw [if_pos hz] at hwl
        simp only [Prod.mk.injEq] at hwl
        obtain ⟨rfl, rfl, rfl⟩ := hwl
        have HZ := Lib.hid hz
        clear hz
        gi_wp2_with (gi_at_call 31; refine CallsIn.mono (callsIn_wide.2 HWK.out) ?_; rintro e w' ⟨rfl, hs5⟩)
        go_roundw
        case rel =>
          refine ⟨i + 1, by omega, by go_num, ?_, hs.trans hs5⟩
          rw [HSU.out, if_pos HZ.out, List.append_nil]
          exact ownsRow_same HROW.out hs5 (by simp)
        case measure => simp [intOf]; omega
      · rw [if_neg hz] at hwl
        simp only [Prod.mk.injEq] at hwl
        obtain ⟨rfl, rfl, rfl⟩ := hwl
        have HZ := Lib.hid hz
        clear hz
        gi_wp2_with fail
        refine CallsIn.mono (callsIn_wide.2 HWK.out) ?_
        rintro e w5 ⟨rfl, hs5⟩
        have HROW5 := Lib.hid (ownsRow_same HROW.out hs5 (by simp))
        have hs6 := hs.trans hs5
        have hz6 := hs6.size
        have hsu := HSU.out
        rw [if_neg HZ.out] at hsu
        have HSU2 := Lib.hid hsu
        clear hsu hs5
        gi_wp2_with (gi_at_builtin; refine stop_intro ?_)
        unfold Stop
        refine wpListIn_append_same rfl _ _ 30 rfl w.heap.size 3 i3 (.int .i64 0) 1 8 Try.underlying30 hi3 hz3 hz31 hz32 rfl (by decide) _ _ _ rfl (HROW5.out.alloc _) ⟨w5.heap.size, 0, none⟩ 1 1 [.int .i64 (i : Int)] (by rfl) (by rfl) ?c1 ?c2 ?c3 ?c4 ?c5 ?_
        case c1 =>
          intro j u hu
          exact cells_new rfl hu
        case c2 => simp [Value.oneCell']
        case c3 => unfold maxLen; omega
        case c4 => omega
        case c5 => simp; omega
        intro v' w7 hown' hsame _
        have HO := Lib.hid hown'
        have hs8 : Same (fun k => w.heap.size ≤ k) w w7 := ((hs6.trans (same_alloc (.cells #[.int .i64 (i : Int)] 3))).mono (fun _ _ h => h.elim)).trans (hsame.mono (fun b _ h => (ownsRow_shape HROW5.out h).1))
        have hs9 : Same (fun _ => False) w w7 := hs8.mono (fun k h h' => by omega)
        clear hown' hsame hs8
        gi_wp2
        go_roundw
        case rel =>
          refine ⟨i + 1, by omega, by go_num, ?_, hs9⟩
          rw [HSU2.out]
          unfold ints at HO ⊢
          rw [List.map_append, List.length_append]
          exact HO.out
        case measure => simp [intOf]; omega
    · obtain rfl : i = 256 := by omega
      gi_wp2
      refine bodyPost_ret (results_tmp2 rfl _ _ _) rfl ⟨_, rfl, ?_, hs⟩
      rw [HP.out]
      exact HROW.out
theorem rpages_is {w : World} {r rb rr : Nat} {M : Mm} (h : RefAt w r rb rr M) (root : Int) (hc : M.check root 0 = 0) :
    Calls Try.prog 33 #[.pointer (some ⟨r, 0, none⟩), .int .i64 root] w fun e w' => ∃ a cap, e = .returned (.tuple #[.slice a (M.pages root).length cap, .int .i64 0]) ∧
      IntsAt w' (.slice a (M.pages root).length cap) (M.pages root) ∧ (∀ g, (Value.slice a (M.pages root).length cap).ownBlock = some g → w.heap.size ≤ g) ∧ Same (fun _ => False) w w' := by
  refine (rpages_ok h root hc).mono ?_
  rintro e w' ⟨v, rfl, ho, hs⟩
  have hl := M.pages_len root
  have hI := intsAt_of ho (by omega)
  rcases ho.2 with ⟨rfl, h0⟩ | ⟨g, cap, cur, rfl, hb, _⟩
  · exact ⟨none, 0, by rw [h0], by rw [h0]; exact hI, by simp [Value.ownBlock], hs⟩
  · exact ⟨_, cap, rfl, hI, fun g' hg => by simp only [Value.ownBlock, Option.some.injEq] at hg; omega, hs⟩
end Go.Proofs.Ytlbgnmcjdmdjpaa
