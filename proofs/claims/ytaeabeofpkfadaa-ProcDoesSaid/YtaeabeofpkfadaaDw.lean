/- The walk of ProcDoes. Conditions: the arguments' form. -/
import Derived.Test.YtaeabeofpkfadaaDd
namespace Go.Proofs.Ytaeabeofpkfadaa
open Go.RowKit Go.Shelf
attribute [local go_sem] Oper.semAt_some

theorem did_any {s : Nat} {w : World} {t m r : Nat} {L : List Pr} {last : Int} (h : Both s w t m r L last) (d pid stat uid gid : Int) (ch : ByteArray) :
    Calls Try.prog 18 #[.pointer (some ⟨t, 0, none⟩), .pointer (some ⟨r, 0, none⟩), .agg #[.int .i64 d, .int .i64 pid, .int .i64 stat, .int .i64 uid, .int .i64 gid, .string ch]] w (DidQ s w t m r L last ⟨d, pid, stat, uid, gid, txt ch⟩) := by
  rcases (by omega : (d % 8 = 0 ∨ d % 8 = 1 ∨ d % 8 = 4) ∨ d % 8 = 2 ∨ d % 8 = 3 ∨ d % 8 = 5 ∨ d % 8 = 6 ∨ d % 8 = 7) with hd | hd | hd | hd | hd | hd
  · exact did_seq h d pid stat uid gid ch hd
  · exact did_become h d pid stat uid gid ch hd
  · exact did_exit h d pid stat uid gid ch hd
  · exact did_kill h d pid stat uid gid ch hd
  · exact did_sleep h d pid stat uid gid ch hd
  · exact did_wake h d pid stat uid gid ch hd
theorem both_new {s : Nat} {w : World} {t m b r g cap : Nat} (h : TabAt w t m [one b] 1) (hR : RAt s w r g cap [one 0] 1) (hd : ∀ k, Own t m [one b] k → k ≠ r ∧ k ≠ g) : Both s w t m r [one b] 1 :=
  ⟨⟨h, Inv.zero b⟩, fun q hq => by obtain rfl := List.mem_singleton.1 hq; exact .inl ⟨rfl, rfl⟩, g, cap, ⟨hR.c0, hR.z0, hR.c1, hR.z1, hR.row, hR.gr, hR.len⟩, hd⟩
theorem RAt.base {s s' : Nat} {w : World} {r g cap : Nat} {L : List Pr} {last : Int} (h : RAt s w r g cap L last) (hs : s' ≤ s) : RAt s' w r g cap L last := ⟨h.c0, h.z0, h.c1, h.z1, ownsRow_base h.row hs, h.gr, h.len⟩
set_option maxHeartbeats 6400000 in
set_option maxRecDepth 16384 in
theorem does_walk (w : World) (a : Option Addr) (len cap : Nat) (g : Nat → Do) (hlen : len ≤ 9223372036854775807) (ha : ActsAt w a len g) :
    Calls Try.prog 5 #[.slice a len cap] w fun e w' => e = .returned (.bool true) ∧ Same (fun _ => False) w w' := by
  have HA := Lib.hid ha
  clear ha
  go_enter Try.func5, Try.ntmps5
  go_wp2_with fail
  refine (shown_any _).mono ?_
  rintro e w1 ⟨rfl, hs1⟩
  go_wp2_with fail
  refine (new_any _).mono ?_
  rintro e w2 ⟨t, m, b, rfl, hT, ht, hm, hb, hs2⟩
  go_wp2_with fail
  refine (rnew_any _).mono ?_
  rintro e w3 ⟨r, gr0, cr0, rfl, hR, hr, hg, hs3⟩
  have hsz1 := hs1.size
  have hsz2 := hs2.size
  have hsw : Same (fun k => w.heap.size ≤ k) w w3 := ((hs1.trans hs2).trans hs3).mono (fun _ _ h => h.elim)
  have hlt2 := hT.lt
  have HB := Lib.hid (both_new (hT.same0 hs3) (hR.base (show w.heap.size ≤ w2.heap.size by omega)) (fun k hk => by have := own_lt hT hk; omega))
  have hown : ∀ k, Own t m [one b] k → w.heap.size ≤ k := fun k hk => own_new (by omega) (by omega) (fun p hp => by obtain rfl := List.mem_singleton.1 hp; show w.heap.size ≤ b; omega) hk
  have ht0 : w.heap.size ≤ t := by omega
  have hm0 : w.heap.size ≤ m := by omega
  have hr0 : w.heap.size ≤ r := by omega
  clear hT hs1 hs2 hs3 ht hm hb hsz1 hsz2 hR hr hg hlt2
  go_wp2
  go_loopw [6] (fun v6 wx => ∃ (i : Nat) (L : List Pr) (last : Int) (W : World), W = wx ∧ i ≤ len ∧ i ≤ 150 ∧ v6 = .int .i64 i ∧ Both w.heap.size W t m r L last ∧ (∀ k, Own t m L k → w.heap.size ≤ k) ∧ Same (fun k => w.heap.size ≤ k) w W) (fun v6 _ => len - (intOf v6).toNat)
  case atStart => exact ⟨0, [one b], 1, _, rfl, by omega, by omega, rfl, HB.out, hown, hsw⟩
  case round =>
    obtain ⟨i, L, last, W, hW, hi1, hi2, rfl, hBi, hOi, hsi⟩ := hrel
    subst hW
    clear hsw
    by_cases hik : i < len ∧ i < 150
    · obtain ⟨hlt, hlt150⟩ := hik
      have hil : (i : Int) < len := by omega
      have hi150 : (i : Int) < 150 := by omega
      obtain ⟨x, hax, hact⟩ := HA.out i hlt
      subst hax
      have hact' := hact.same hsi (fun b hb h => by omega)
      obtain ⟨a0, a1, a2, a3, a4, a5⟩ := hact'
      have HOI := Lib.hid hOi
      have HSI := Lib.hid hsi
      have HD := Lib.hid (did_any hBi (g i).d (g i).pid (g i).stat (g i).uid (g i).gid (g i).ch)
      have hszi := hsi.size
      clear hact hBi hOi hsi
      go_wp2_with fail
      refine HD.out.mono ?_
      rintro e w4 ⟨b', rfl, hb', hB4, g0, hg0, hs4⟩
      obtain ⟨X, hX⟩ : ∃ X : Do, X = ⟨(g i).d, (g i).pid, (g i).stat, (g i).uid, (g i).gid, txt (g i).ch⟩ := ⟨_, rfl⟩
      rw [← hX] at hB4
      have hO4 : ∀ k, Own t m (actL L last X b') k → w.heap.size ≤ k := fun k hk => by
        rcases own_actL hk with e | e
        · exact HOI.out k e
        · omega
      have hs4' := HSI.out.trans (hs4.mono (T := fun k => w.heap.size ≤ k) (fun k _ e => by
        rcases e with e | e | e
        · exact HOI.out k e
        · omega
        · omega))
      obtain ⟨last', hlast'⟩ : ∃ last', last' = actLast L last X := ⟨_, rfl⟩
      obtain ⟨L', hL'⟩ : ∃ L', L' = actL L last X b' := ⟨_, rfl⟩
      rw [← hL', ← hlast'] at hB4
      rw [← hL'] at hO4
      clear hX hL' hlast' hs4 a0 a1 a2 a3 a4 a5 hb'
      have hI4 := hB4.tab.inv
      have hln : L'.length = (L'.length - 1) + 1 := by have := List.length_pos_iff.2 hB4.tab.ne; omega
      obtain ⟨n', hn'⟩ : ∃ n', L'.length = n' + 1 := ⟨_, hln⟩
      have hn16 := hI4.len
      have HP := Lib.hid (pids_any hB4.tab.tab hI4.bd)
      obtain ⟨gr, cr, hR4, hap⟩ := hB4.ref
      have HB4 := Lib.hid hB4
      have HI4 := Lib.hid hI4
      have HO4 := Lib.hid hO4
      have HR4 := Lib.hid hR4
      have HAP := Lib.hid hap
      clear hB4 hI4 hO4 hln hR4 hap
      go_wp2_with fail
      refine HP.out.mono ?_
      rintro e w5 ⟨v, rfl, hrow, -, hs5⟩
      rw [hn'] at hrow
      obtain ⟨gb, cap', rfl⟩ := own_row_succ hrow
      have hR5 := HR4.out.same0 hs5
      have d0 := hR5.c0
      rw [hn'] at d0
      have HR5 := Lib.hid hR5
      have HT5 := Lib.hid (HB4.out.tab.tab.same0 hs5)
      have HROW := Lib.hid hrow
      have HS5 := Lib.hid (hs4'.trans (hs5.mono (T := fun k => w.heap.size ≤ k) (fun _ _ h => h.elim)))
      clear hrow hs5 hs4' hR5
      go_wp2
      go_loopw [9] (fun v9 wx => ∃ (k : Nat) (W2 : World), W2 = wx ∧ k ≤ n' + 1 ∧ v9 = .int .i64 k ∧ TabAt W2 t m L' last' ∧ RAt w.heap.size W2 r gr cr L' last' ∧ W2.ownsRow w4.heap.size 3 1 (.slice (some ⟨gb, 0, none⟩) (n' + 1) cap') (n' + 1) (pidv L') ∧ Same (fun k => w.heap.size ≤ k) w W2) (fun v9 _ => n' + 1 - (intOf v9).toNat)
      case atStart => exact ⟨0, _, rfl, by omega, rfl, HT5.out, HR5.out, HROW.out, HS5.out⟩
      case round =>
        obtain ⟨k, W2, hW2, hk, rfl, hTk, hRk, hrk, hsk⟩ := hrel
        subst hW2
        have f0 := hRk.c0
        rw [hn'] at f0
        by_cases hkk : k < n' + 1
        · have hki : (k : Int) < n' + 1 := by omega
          obtain ⟨p, hp⟩ : ∃ p, L'[k]? = some p := ⟨_, List.getElem?_eq_getElem (by omega)⟩
          have hpm := List.mem_of_getElem? hp
          have c0 := hrk.cells (g := gb) rfl k (.int .i64 p.pid) (by unfold pidv; rw [List.getElem?_map, hp]; rfl)
          rw [show (⟨gb, 0, none⟩ : Addr).add k = ⟨gb, k, none⟩ by simp [Addr.add]; intro h; exact h.symm] at c0
          have hga := get_any hTk p.pid
          rw [HI4.out.get hpm] at hga
          simp only [getv, fe, Pr.agg] at hga
          have HTK := Lib.hid hTk
          have HRK := Lib.hid hrk
          have HRR := Lib.hid hRk
          have HSK := Lib.hid hsk
          have HPP := Lib.hid hp
          clear hTk hrk hsk hpm hp hRk
          go_wp2_with fail
          refine hga.mono ?_
          rintro e w6 ⟨rfl, hs6⟩
          obtain ⟨V, hV⟩ : ∃ V, V = w6.alloc (.cells #[.int .i64 p.pid, .int .i64 p.par, .int .i64 p.st, .int .i64 p.uid, .int .i64 p.gid, .string p.ch, .int .i64 p.stat, .bool p.kil] 34) := ⟨_, rfl⟩
          have hsV : Same (fun _ => False) W2 V := by rw [hV]; exact hs6.alloc _
          have hRV := HRR.out.same0 hsV
          have g0' := hRV.c0
          rw [hn'] at g0'
          have hcell := fun j v hv => (hRV.at_ HPP.out (j := j) (v := v) hv).1
          have m0 : V.cell? ⟨gr, k * 8, none⟩ = some (.int .i64 p.pid) := hcell 0 _ rfl
          have m1 := hcell 1 _ rfl
          have m2 := hcell 2 _ rfl
          have m3 := hcell 3 _ rfl
          have m4 := hcell 4 _ rfl
          have m5 := hcell 5 _ rfl
          have m6 := hcell 6 _ rfl
          have m7 := hcell 7 _ rfl
          have y0 : V.cell? ⟨w6.heap.size, 0, none⟩ = some (.int .i64 p.pid) := by rw [hV]; simp [go_sem]
          have y1 : V.cell? ⟨w6.heap.size, 1, none⟩ = some (.int .i64 p.par) := by rw [hV]; simp [go_sem]
          have y2 : V.cell? ⟨w6.heap.size, 2, none⟩ = some (.int .i64 p.st) := by rw [hV]; simp [go_sem]
          have y3 : V.cell? ⟨w6.heap.size, 3, none⟩ = some (.int .i64 p.uid) := by rw [hV]; simp [go_sem]
          have y4 : V.cell? ⟨w6.heap.size, 4, none⟩ = some (.int .i64 p.gid) := by rw [hV]; simp [go_sem]
          have y5 : V.cell? ⟨w6.heap.size, 5, none⟩ = some (.string p.ch) := by rw [hV]; simp [go_sem]
          have y6 : V.cell? ⟨w6.heap.size, 6, none⟩ = some (.int .i64 p.stat) := by rw [hV]; simp [go_sem]
          have y7 : V.cell? ⟨w6.heap.size, 7, none⟩ = some (.bool p.kil) := by rw [hV]; simp [go_sem]
          have Y := Lib.hid (And.intro m0 (And.intro m1 (And.intro m2 (And.intro m3 (And.intro m4 (And.intro m5 (And.intro m6 (And.intro m7 (And.intro y0 (And.intro y1 (And.intro y2 (And.intro y3 (And.intro y4 (And.intro y5 (And.intro y6 (And.intro y7 g0'))))))))))))))))
          have HV := Lib.hid hV
          have HSV := Lib.hid hsV
          clear hga hs6 hsV hV hRV hcell m0 m1 m2 m3 m4 m5 m6 m7 y0 y1 y2 y3 y4 y5 y6 y7 g0' c0
          go_wp2
          rw [← HV.out]
          obtain ⟨m0, m1, m2, m3, m4, m5, m6, m7, y0, y1, y2, y3, y4, y5, y6, y7, g0'⟩ := Y.out
          go_quiet (fail)
          rename_i nq
          go_wp2
          have hsB := HSV.out.drewN nq
          have HSB := Lib.hid hsB
          clear hsB
          go_round
          case rel => exact ⟨k + 1, _, rfl, by omega, by go_num, HTK.out.same0 HSB.out, HRR.out.same0 HSB.out, ownsRow_same HRK.out HSB.out (fun _ _ h => h), HSK.out.trans (HSB.out.mono (fun _ _ h => h.elim))⟩
          case measure => simp [intOf]; omega
        · obtain rfl : k = n' + 1 := by omega
          have HTK := Lib.hid hTk
          have HRR := Lib.hid hRk
          have HSK := Lib.hid hsk
          clear hTk hrk hsk hRk
          go_wp2
          go_round
          case rel => exact ⟨i + 1, L', last', _, rfl, by omega, by omega, by go_num, ⟨⟨HTK.out, HI4.out⟩, HB4.out.st, gr, cr, HRR.out, HAP.out⟩, HO4.out, HSK.out⟩
          case measure => simp [intOf]; omega
    · by_cases hil : i < len
      · have hlt : (i : Int) < len := by omega
        have hlt2 : decide ((i : Int) < 150) = false := by simp; omega
        clear hBi hOi
        go_wp2
        go_ret
        exact ⟨rfl, hsi.mono (fun k hk h => by omega)⟩
      · have hlt : decide ((i : Int) < len) = false := by simp; omega
        clear hBi hOi
        go_wp2
        go_ret
        exact ⟨rfl, hsi.mono (fun k hk h => by omega)⟩
end Go.Proofs.Ytaeabeofpkfadaa
