/- The walk of ProcParents. Conditions: the arguments' form. -/
import Derived.Test.YtaeabeofpkfadaaR
import Derived.Test.YtaeabeofpkfadaaAct
import Derived.Laws.Small
import Derived.Deep.QuietTactic
import Derived.BigQuiet
namespace Go.Proofs.Ytaeabeofpkfadaa
open Go.RowKit Go.Shelf
attribute [local go_sem] Oper.semAt_some

set_option maxHeartbeats 6400000 in
set_option maxRecDepth 16384 in
theorem parents_walk (w : World) (a : Option Addr) (len cap : Nat) (g : Nat → Do) (hlen : len ≤ 9223372036854775807) (ha : ActsAt w a len g) :
    Calls Try.prog 7 #[.slice a len cap] w fun e w' => e = .returned (.bool true) ∧ Same (fun _ => False) w w' := by
  have HA := Lib.hid ha
  clear ha
  go_enter Try.func7, Try.ntmps7
  go_wp2_with fail
  refine (shown_any _).mono ?_
  rintro e w1 ⟨rfl, hs1⟩
  go_wp2_with fail
  refine (new_any _).mono ?_
  rintro e w2 ⟨t, m, b, rfl, hT, ht, hm, hb, hs2⟩
  have hsz1 := hs1.size
  have hsw : Same (fun k => w.heap.size ≤ k) w w2 := (hs1.trans hs2).mono (fun _ _ h => h.elim)
  have HT := Lib.hid (new_one hT (show w.heap.size ≤ b by omega))
  have ht0 : w.heap.size ≤ t := by omega
  have hm0 : w.heap.size ≤ m := by omega
  clear hT hs1 hs2 ht hm hb hsz1
  go_wp2
  go_loopw [5, 6] (fun v5 v6 wr => ∃ (i : Nat) (L : List Pr) (last : Int), i ≤ len ∧ i ≤ 150 ∧ v6 = .int .i64 i ∧ v5 = .int .i64 last ∧ TabI wr t m L last ∧ (∀ p ∈ L, w.heap.size ≤ p.b) ∧ Same (fun k => w.heap.size ≤ k) w wr) (fun _ v6 _ => len - (intOf v6).toNat)
  case atStart => exact ⟨0, [one b], 1, by omega, by omega, rfl, rfl, HT.out.1, HT.out.2, hsw⟩
  case round =>
    obtain ⟨i, L, last, hi1, hi2, rfl, rfl, hTi, hLb, hsi⟩ := hrel
    by_cases hik : i < len ∧ i < 150
    · obtain ⟨hlt, hlt150⟩ := hik
      have hil : (i : Int) < len := by omega
      have hi150 : (i : Int) < 150 := by omega
      obtain ⟨x, hax, hact⟩ := HA.out i hlt
      subst hax
      have hact' := hact.same hsi (fun b hb h => by omega)
      obtain ⟨a0, a1, a2, a3, a4, a5⟩ := hact'
      have HTI := Lib.hid hTi
      have HLB := Lib.hid hLb
      have hl1 := hTi.inv.l1
      have hl2 := hTi.inv.l2
      clear hact hTi hLb
      go_wp2_with fail
      refine (done_any HTI.out (g i).d (g i).pid (g i).stat (g i).uid (g i).gid (g i).ch).mono ?_
      rintro e w3 ⟨b', rfl, hb', hT3, hs3⟩
      obtain ⟨X, hX⟩ : ∃ X : Do, X = ⟨(g i).d, (g i).pid, (g i).stat, (g i).uid, (g i).gid, txt (g i).ch⟩ := ⟨_, rfl⟩
      rw [← hX] at hT3 ⊢
      have hI3 := HTI.out.act X hT3
      have hLb3 : ∀ p ∈ actL L last X b', w.heap.size ≤ p.b := act_fresh HLB.out (by have := hsi.size; omega)
      have hs3' := hsi.trans (hs3.mono (fun k _ e => own_new ht0 hm0 HLB.out e))
      have hnew := act_new L last X
      obtain ⟨nn, hnn⟩ : ∃ nn, nn = actN L last X := ⟨_, rfl⟩
      obtain ⟨last', hlast'⟩ : ∃ last', last' = actLast L last X := ⟨_, rfl⟩
      obtain ⟨L', hL'⟩ : ∃ L', L' = actL L last X b' := ⟨_, rfl⟩
      rw [← hnn, ← hlast'] at hnew
      rw [← hL', ← hlast'] at hI3
      rw [← hL'] at hLb3
      rw [← hnn]
      clear hX hnn hlast' hL' hT3 hs3 hsi hb' a0 a1 a2 a3 a4 a5 hsw
      have HI3 := Lib.hid hI3
      have HLB3 := Lib.hid hLb3
      have HP := Lib.hid (pids_any hI3.tab hI3.inv.bd)
      have hmx : max last nn = last' := by rcases hnew with ⟨h1, h2⟩ | ⟨h1, h2⟩ <;> omega
      have hnn2 : nn = 0 ∨ nn = last + 1 := by rcases hnew with ⟨h1, h2⟩ | ⟨h1, h2⟩ <;> omega
      have hln : L'.length = (L'.length - 1) + 1 := by have := List.length_pos_iff.2 hI3.ne; omega
      obtain ⟨n', hn'⟩ : ∃ n', L'.length = n' + 1 := ⟨_, hln⟩
      have hn16 := hI3.inv.len
      clear hI3 hLb3 hln hnew
      rcases hnn2 with hz | hz
      all_goals
        subst hz
        have hne0 : (last + 1 == 0) = false := by simp; omega
        go_wp2_with fail
        refine HP.out.mono ?_
        rintro e w4 ⟨v, rfl, hrow, -, hs4⟩
        rw [hn'] at hrow
        obtain ⟨gb, cap', rfl⟩ := own_row_succ hrow
        have hs4' := hs3'.trans (hs4.mono (T := fun k => w.heap.size ≤ k) (fun _ _ h => h.elim))
        have HT4 := Lib.hid (HI3.out.tab.same0 hs4)
        have HROW := Lib.hid hrow
        have HS4 := Lib.hid hs4'
        have hgb := (hrow.lt gb rfl)
        have hsz3 := hs3'.size
        clear hrow hs4 hs4' hs3'
        rename_i wrOut _ _ _ _
        go_wp2
        go_loopw [9] (fun v9 wr2 => ∃ k : Nat, k ≤ n' + 1 ∧ v9 = .int .i64 k ∧ TabAt wr2 t m L' last' ∧ wr2.ownsRow w3.heap.size 3 1 (.slice (some ⟨gb, 0, none⟩) (n' + 1) cap') (n' + 1) (pidv L') ∧ Same (fun k => w.heap.size ≤ k) w wr2) (fun v9 _ => n' + 1 - (intOf v9).toNat)
        case atStart => exact ⟨0, by omega, rfl, HT4.out, HROW.out, HS4.out⟩
        case round =>
          obtain ⟨k, hk, rfl, hTk, hrk, hsk⟩ := hrel
          by_cases hkk : k < n' + 1
          · have hki : (k : Int) < n' + 1 := by omega
            obtain ⟨p, hp⟩ : ∃ p, L'[k]? = some p := ⟨_, List.getElem?_eq_getElem (by omega)⟩
            have hpm := List.mem_of_getElem? hp
            have c0 := hrk.cells (g := gb) rfl k (.int .i64 p.pid) (by unfold pidv; rw [List.getElem?_map, hp]; rfl)
            rw [show (⟨gb, 0, none⟩ : Addr).add k = ⟨gb, k, none⟩ by simp [Addr.add]; intro h; exact h.symm] at c0
            have hga := get_any hTk p.pid
            rw [HI3.out.inv.get hpm] at hga
            simp only [getv, fe, Pr.agg] at hga
            obtain ⟨hpar1, hpar2⟩ := HI3.out.inv.parent hpm
            have HTK := Lib.hid hTk
            have HRK := Lib.hid hrk
            have HSK := Lib.hid hsk
            clear hTk hrk hsk hpm hp
            by_cases e1 : p.pid = 1
            · rw [hpar1 e1, e1] at hga
              rw [e1] at c0
              clear hpar1 hpar2 e1
              go_wp2_with fail
              refine hga.mono ?_
              rintro e w5 ⟨rfl, hs5⟩
              have c5 := hs5.cell c0 (fun h => h)
              have hg5 := World.block_lt_of_cell? _ _ c5
              have c6 := (same_alloc (W := w5) (.cells #[.int .i64 1, .int .i64 0, .int .i64 p.st, .int .i64 p.uid, .int .i64 p.gid, .string p.ch, .int .i64 p.stat, .bool p.kil] 34)).cell c5 (fun h => h)
              have HS5 := Lib.hid hs5
              clear hga c0 hs5
              go_wp2
              go_quiet (fail)
              rename_i nq
              go_wp2
              have hsA : Same (fun _ => False) w5 ((w5.alloc (.cells #[.int .i64 1, .int .i64 0, .int .i64 p.st, .int .i64 p.uid, .int .i64 p.gid, .string p.ch, .int .i64 p.stat, .bool p.kil] 34)).drewN nq) := (same_alloc _).drewN nq
              have hsB := HS5.out.trans hsA
              go_round
              case rel => exact ⟨k + 1, by omega, by go_num, HTK.out.same0 hsB, ownsRow_same HRK.out hsB (fun _ _ h => h), HSK.out.trans (hsB.mono (fun _ _ h => h.elim))⟩
              case measure => simp [intOf]; omega
            · obtain ⟨q, hq, hq3⟩ := hpar2 e1
              have he1 : (p.pid == 1) = false := by simpa using e1
              have hq3' : (q.st == 3) = false := by simpa using hq3
              clear hpar1 hpar2 e1 hq3
              go_wp2_with fail
              refine hga.mono ?_
              rintro e w5 ⟨rfl, hs5⟩
              have c5 := hs5.cell c0 (fun h => h)
              have hg5 := World.block_lt_of_cell? _ _ c5
              have c6 := (same_alloc (W := w5) (.cells #[.int .i64 p.pid, .int .i64 p.par, .int .i64 p.st, .int .i64 p.uid, .int .i64 p.gid, .string p.ch, .int .i64 p.stat, .bool p.kil] 34)).cell c5 (fun h => h)
              have HS5 := Lib.hid hs5
              clear hga c0 hs5
              go_wp2
              go_quiet (fail)
              rename_i nq
              have hsA : Same (fun _ => False) w5 ((w5.alloc (.cells #[.int .i64 p.pid, .int .i64 p.par, .int .i64 p.st, .int .i64 p.uid, .int .i64 p.gid, .string p.ch, .int .i64 p.stat, .bool p.kil] 34)).drewN nq) := (same_alloc _).drewN nq
              have hsB := HS5.out.trans hsA
              have hgq := get_any (HTK.out.same0 hsB) p.par
              rw [hq] at hgq
              simp only [getv, fe, Pr.agg] at hgq
              have HSB := Lib.hid hsB
              clear hsA hsB
              go_wp2_with fail
              refine hgq.mono ?_
              rintro e w6 ⟨rfl, hs6⟩
              have hsC := HSB.out.trans hs6
              have HSC := Lib.hid (hsC.alloc (.cells #[.int .i64 q.pid, .int .i64 q.par, .int .i64 q.st, .int .i64 q.uid, .int .i64 q.gid, .string q.ch, .int .i64 q.stat, .bool q.kil] 34))
              clear hgq hs6 hsC
              go_wp2
              go_round
              case rel => exact ⟨k + 1, by omega, by go_num, HTK.out.same0 HSC.out, ownsRow_same HRK.out HSC.out (fun _ _ h => h), HSK.out.trans (HSC.out.mono (fun _ _ h => h.elim))⟩
              case measure => simp [intOf]; omega
          · obtain rfl : k = n' + 1 := by omega
            have HTK := Lib.hid hTk
            have HSK := Lib.hid hsk
            clear hTk hrk hsk
            go_wp2
            go_round
            case rel => exact ⟨i + 1, L', _, by omega, by omega, by go_num, rfl, ⟨HTK.out, HI3.out.inv⟩, HLB3.out, HSK.out⟩
            case measure => simp [intOf]; omega
    · have hc : ¬ (i < len ∧ i < 150) := hik
      by_cases hil : i < len
      · have hlt : (i : Int) < len := by omega
        have hlt2 : decide ((i : Int) < 150) = false := by simp; omega
        clear hTi hLb
        go_wp2
        go_ret
        exact ⟨rfl, hsi.mono (fun k hk h => by omega)⟩
      · have hlt : decide ((i : Int) < len) = false := by simp; omega
        clear hTi hLb
        go_wp2
        go_ret
        exact ⟨rfl, hsi.mono (fun k hk h => by omega)⟩
end Go.Proofs.Ytaeabeofpkfadaa
