/- The walk of ProcMany. Conditions: the arguments' form. -/
import Derived.Test.YtaeabeofpkfadaaM
namespace Go.Proofs.Ytaeabeofpkfadaa
open Go.RowKit Go.Shelf
attribute [local go_sem] Oper.semAt_some

set_option maxHeartbeats 3200000 in
set_option maxRecDepth 16384 in
theorem many_walk (w : World) (a : Option Addr) (len cap : Nat) (gp : Nat → Int) (hlen : len ≤ 9223372036854775807)
    (ha : ∀ i, i < len → ∃ x, a = some x ∧ w.cell? (x.add i) = some (.int .i64 (gp i))) :
    Calls Try.prog 3 #[.slice a len cap] w fun e w' => e = .returned (.bool true) ∧ Same (fun _ => False) w w' := by
  have HA := Lib.hid ha
  clear ha
  go_enter Try.func3, Try.ntmps3
  go_wp2_with fail
  refine (shown_any _).mono ?_
  rintro e w1 ⟨rfl, hs1⟩
  go_wp2_with fail
  refine (new_any _).mono ?_
  rintro e w2 ⟨t, m, b, rfl, hT, ht, hm, hb, hs2⟩
  have hsz1 := hs1.size
  have hsw : Same (fun k => w.heap.size ≤ k) w w2 := (hs1.trans hs2).mono (fun _ _ h => h.elim)
  have HT := Lib.hid hT
  clear hT hs1 hs2
  go_wp2
  go_loopw [5] (fun v5 wr => ∃ (i : Nat) (L : List Pr), i ≤ len ∧ i ≤ 30 ∧ v5 = .int .i64 i ∧ Mny L (min 16 (1 + i)) ∧ TabAt wr t m L ((min 16 (1 + i) : Nat) : Int) ∧ (∀ p ∈ L, w.heap.size ≤ p.b) ∧ Same (fun k => w.heap.size ≤ k) w wr) (fun v5 _ => len - (intOf v5).toNat)
  case atStart => exact ⟨0, [one b], by omega, by omega, rfl, ⟨rfl, fun j q hq => by
    match j, hq with
    | 0, hq => simp only [List.getElem?_cons_zero, Option.some.injEq] at hq; subst hq; exact ⟨rfl, rfl⟩⟩, HT.out, fun p hp => by obtain rfl := List.mem_singleton.1 hp; show w.heap.size ≤ b; omega, hsw⟩
  case round =>
    obtain ⟨i, L, hi1, hi2, rfl, hM, hTi, hLb, hsi⟩ := hrel
    have hbd := hM.bd (by omega)
    have hmin : min 16 (1 + i) ≤ 16 ∧ 1 ≤ min 16 (1 + i) := by omega
    obtain ⟨n, hn⟩ : ∃ n, n = min 16 (1 + i) := ⟨_, rfl⟩
    rw [← hn] at hM hTi hmin
    have HN := Lib.hid hn
    have HM := Lib.hid hM
    have HTI := Lib.hid hTi
    have HP := Lib.hid (pids_any hTi hbd)
    clear hn hTi
    by_cases hik : i < len ∧ i < 30
    · obtain ⟨hlt, hlt30⟩ := hik
      have hil : (i : Int) < len := by omega
      have hi30 : (i : Int) < 30 := by omega
      obtain ⟨x, hax, hcx⟩ := HA.out i hlt
      have hxl := World.block_lt_of_cell? _ _ hcx
      have c1 := hsi.cell hcx (fun h => by omega)
      subst hax
      clear hcx
      go_wp2_with fail
      refine HP.out.mono ?_
      rintro e w3 ⟨v, rfl, hrow, -, hs3⟩
      have hl : L.length = n := hM.len
      obtain ⟨n', rfl⟩ : ∃ n', n = n' + 1 := ⟨n - 1, by omega⟩
      rw [hl] at hrow
      obtain ⟨g, cap, rfl⟩ := own_row_succ hrow
      have c3 := hs3.cell c1 (fun h => h)
      have h0 : 0 ≤ IntKind.u64.wrap (gp i) := by
        simp [IntKind.wrap, IntKind.signed, IntKind.bits]
        omega
      obtain ⟨r, hr1, hr2⟩ : ∃ r : Nat, r < n' + 1 ∧ (IntKind.u64.wrap (gp i)).tmod ((n' : Int) + 1) = (r : Int) := by
        refine ⟨((IntKind.u64.wrap (gp i)).tmod ((n' : Int) + 1)).toNat, ?_, ?_⟩
        · have := Int.tmod_lt_of_pos (IntKind.u64.wrap (gp i)) (b := (n' : Int) + 1) (by omega)
          have := Int.tmod_nonneg ((n' : Int) + 1) h0
          omega
        · have := Int.tmod_nonneg ((n' : Int) + 1) h0
          omega
      obtain ⟨p, hp⟩ := HM.out.rn hr1
      have hq := List.getElem?_eq_getElem (l := L) (i := r) (by omega)
      have hcr := hrow.cells (g := g) rfl r (.int .i64 ((r : Int) + 1)) (by unfold pidv; rw [List.getElem?_map, hq, Option.map_some, (HM.out.at_ r _ hq).1])
      rw [show (⟨g, 0, none⟩ : Addr).add r = ⟨g, r, none⟩ by simp [Addr.add]; intro h; exact h.symm] at hcr
      have hri : (r : Int) < n' + 1 := by omega
      clear hrow h0 hq
      go_wp2_with fail
      have hT3 := HTI.out.same0 hs3
      have hsw3 := hsi.trans (hs3.mono (T := fun k => w.heap.size ≤ k) (fun _ _ h => h.elim))
      by_cases h16 : n' + 1 = 16
      · refine (fork_full hT3 _ hp (.inl (by omega))).mono ?_
        rintro e w4 ⟨rfl, hs4⟩
        have hT4 := hT3.same0 hs4
        have hga := get_any hT4 0
        rw [HM.out.zero] at hga
        simp only [getv, fe] at hga
        have hsw4 := hsw3.trans (hs4.mono (T := fun k => w.heap.size ≤ k) (fun _ _ h => h.elim))
        have HT4 := Lib.hid hT4
        clear hT3 hT4 hcr c1 c3
        go_wp2_with fail
        refine hga.mono ?_
        rintro e w5 ⟨rfl, hs5⟩
        have hsw5 := hsw4.trans (hs5.mono (T := fun k => w.heap.size ≤ k) (fun _ _ h => h.elim))
        have HT5 := Lib.hid (HT4.out.same0 hs5)
        clear hga hs5 hs4 hs3 hsi hsw3 hsw4
        unfold Pr.zero
        have h16i : ((n' : Int) + 1 < 16) = False := by simp; omega
        go_wp2
        have hmm : min 16 (1 + (i + 1)) = n' + 1 := by have := HN.out; omega
        go_round
        case rel => exact ⟨i + 1, L, by omega, by omega, by go_num, by rw [hmm]; exact HM.out, by rw [hmm]; exact HT5.out.same0 (same_alloc _), hLb, hsw5.alloc _⟩
        case measure => simp [intOf]; omega
      · refine (fork_ok hT3 _ hp (by omega) (by omega) (by omega) HM.out.last).mono ?_
        rintro e w4 ⟨b', rfl, hb', hT4, hs4⟩
        have hM4 := HM.out.step ((r : Int) + 1) p b'
        have hga := get_any hT4 (((n' + 1 : Nat) : Int) + 1)
        rw [HM.out.new] at hga
        simp only [getv, fe, Pr.agg, kid] at hga
        have hsz3 := hs3.size
        have hszi := hsi.size
        have hsw4 := hsw3.trans (hs4.mono (T := fun k => w.heap.size ≤ k) (fun k _ h => by omega))
        have HT4 := Lib.hid hT4
        clear hT3 hT4 hcr c1 c3
        go_wp2_with fail
        refine hga.mono ?_
        rintro e w5 ⟨rfl, hs5⟩
        have hsw5 := hsw4.trans (hs5.mono (T := fun k => w.heap.size ≤ k) (fun _ _ h => h.elim))
        have HT5 := Lib.hid (HT4.out.same0 hs5)
        clear hga hs5 hs4 hs3 hsi hsw3 hsw4
        go_wp2
        have hmm : min 16 (1 + (i + 1)) = n' + 1 + 1 := by have := HN.out; omega
        go_round
        case rel => exact ⟨i + 1, _, by omega, by omega, by go_num, by rw [hmm]; exact hM4, by rw [hmm]; exact HT5.out.same0 (same_alloc _), fun q hq => by
          rcases List.mem_append.1 hq with hq | hq
          · exact hLb q hq
          · obtain rfl := List.mem_singleton.1 hq; show w.heap.size ≤ b'; omega, hsw5.alloc _⟩
        case measure => simp [intOf]; omega
    · have hc : ¬ ((i : Int) < len ∧ (i : Int) < 30) := by omega
      have hnl : n = min 16 (1 + min 30 len) := by have := HN.out; omega
      have HNL := Lib.hid hnl
      clear hnl
      have hl : L.length = n := hM.len
      obtain ⟨n', rfl⟩ : ∃ n', n = n' + 1 := ⟨n - 1, by omega⟩
      by_cases hil : i < len
      · have hi30 : ¬ (i : Int) < 30 := by omega
        have hi30' : decide ((i : Int) < 30) = false := by simpa using hi30
        have hlt : (i : Int) < len := by omega
        go_wp2_with fail
        refine HP.out.mono ?_
        rintro e w3 ⟨v, rfl, hrow, -, hs3⟩
        rw [hl] at hrow
        obtain ⟨g, cap, rfl⟩ := own_row_succ hrow
        have hs3' := hsi.trans (hs3.mono (T := fun k => w.heap.size ≤ k) (fun _ _ h => h.elim))
        have hm1 : min 30 (len : Int) = 30 := by omega
        have hm2 : min 16 (31 : Int) = 16 := rfl
        have hn16 : n' = 15 := by have := HNL.out; omega
        clear hs3 hsi
        subst hn16
        go_wp2
        go_ret
        exact ⟨rfl, hs3'.mono (fun k hk h => by omega)⟩
      · have hlt : ¬ (i : Int) < len := by omega
        have hlt' : decide ((i : Int) < len) = false := by simpa using hlt
        go_wp2_with fail
        refine HP.out.mono ?_
        rintro e w3 ⟨v, rfl, hrow, -, hs3⟩
        rw [hl] at hrow
        obtain ⟨g, cap, rfl⟩ := own_row_succ hrow
        have hs3' := hsi.trans (hs3.mono (T := fun k => w.heap.size ≤ k) (fun _ _ h => h.elim))
        have hle : len ≤ 30 := by omega
        have hm1 : min 30 (len : Int) = len := by omega
        have hm2 : min 16 (1 + (len : Int)) = (n' : Int) + 1 := by have := HNL.out; omega
        clear hs3 hsi
        go_wp2
        go_ret
        exact ⟨rfl, hs3'.mono (fun k hk h => by omega)⟩
end Go.Proofs.Ytaeabeofpkfadaa
