/- The walk of ProcReaps. Conditions: the arguments' form. -/
import Derived.Test.YtaeabeofpkfadaaR
import Derived.Test.YtaeabeofpkfadaaS
import Derived.Test.YtaeabeofpkfadaaX
import Derived.Laws.Small
import Derived.Laws.BitsLemmas
import Derived.Deep.QuietTactic
import Derived.BigQuiet
namespace Go.Proofs.Ytaeabeofpkfadaa
open Go.RowKit Go.Shelf
attribute [local go_sem] Oper.semAt_some

theorem and255 (n : Int) : bits .and .i64 n 255 = n % 256 := by
  have h255 : (BitVec.ofInt 64 255).toNat = 2 ^ 8 - 1 := by decide
  have key : (BitVec.ofInt 64 n &&& BitVec.ofInt 64 255).toNat = (n % ((2 ^ 64 : Nat) : Int)).toNat % 2 ^ 8 := by
    rw [BitVec.toNat_and, BitVec.toNat_ofInt, h255, Nat.and_two_pow_sub_one_eq_mod]
  show IntKind.i64.wrap ((BitVec.ofInt 64 n &&& BitVec.ofInt 64 255).toNat : Nat) = n % 256
  rw [key, IntKind.wrap_i64]
  omega
theorem wr_not (L : List Pr) (pid : Int) (n : Nat) : (wr L pid n == 0) = false := by unfold wr; split <;> rfl
theorem wr_not2 (L : List Pr) (pid : Int) (n : Nat) : (Ytaeabeofpkfadaa.wr L pid n != 0) = true := by unfold Ytaeabeofpkfadaa.wr; split <;> rfl
theorem Rp.room {n : Nat} {g : Nat → Int} {L : List Pr} (h : Rp n 0 g L) (hn : n ≤ 10) : L.length ≠ 16 := by have := h.len; omega
theorem Rp.lastq {n : Nat} {g : Nat → Int} {L : List Pr} (h : Rp n 0 g L) : ∀ q ∈ L, q.pid ≤ (n : Int) + 1 := h.le
theorem own_new2 {t m s : Nat} {L : List Pr} (ht : s ≤ t) (hm : s ≤ m) (hL : ∀ p ∈ L, s ≤ p.b) {k : Nat} (h : Own t m L k) : s ≤ k := by
  rcases h with h | h | ⟨p, hp, h⟩
  · omega
  · omega
  · have := hL p hp; omega
theorem fresh_put {L : List Pr} {s : Nat} (h : ∀ p ∈ L, s ≤ p.b) {p p' : Pr} (hp : p ∈ L) (e : p'.b = p.b) (pid : Int) : ∀ q ∈ (put L p').map (adopt pid), s ≤ q.b := by
  intro q hq
  obtain ⟨y, hy, rfl⟩ := List.mem_map.1 hq
  rw [(adopt_id pid y).2]
  rcases put_mem hy with rfl | ⟨hy, _⟩
  · rw [e]; exact h p hp
  · exact h y hy
set_option maxHeartbeats 6400000 in
set_option maxRecDepth 16384 in
theorem reaps_walk (w : World) (a : Option Addr) (len cap : Nat) (gp : Nat → Int) (hlen : len ≤ 9223372036854775807)
    (ha : ∀ i, i < len → ∃ x, a = some x ∧ w.cell? (x.add i) = some (.int .i64 (gp i)))
    (a2 : Option Addr) (len2 cap2 : Nat) (op : Nat → Int) (hlen2 : len2 ≤ 9223372036854775807)
    (ha2 : ∀ i, i < len2 → ∃ x, a2 = some x ∧ w.cell? (x.add i) = some (.int .i64 (op i))) :
    Calls Try.prog 4 #[.slice a len cap, .slice a2 len2 cap2] w fun e w' => e = .returned (.bool true) ∧ Same (fun _ => False) w w' := by
  have HA := Lib.hid ha
  have HA2 := Lib.hid ha2
  clear ha ha2
  obtain ⟨n, hn⟩ : ∃ n, n = min len 10 := ⟨_, rfl⟩
  have hmn : min (len : Int) 10 = (n : Int) := by omega
  have hn10 : n ≤ 10 := by omega
  have hnl : n ≤ len := by omega
  obtain ⟨g, hg⟩ : ∃ g : Nat → Int, ∀ j, bits .and .i64 (gp j) 255 = g j ∧ 0 ≤ g j ∧ g j ≤ 255 := ⟨fun j => gp j % 256, fun j => ⟨and255 _, Int.emod_nonneg _ (by decide), by have := Int.emod_lt_of_pos (gp j) (b := 256) (by decide); show gp j % 256 ≤ 255; omega⟩⟩
  clear hn
  go_enter Try.func4, Try.ntmps4
  go_wp2_with fail
  refine (shown_any _).mono ?_
  rintro e w1 ⟨rfl, hs1⟩
  go_wp2_with fail
  refine (new_any _).mono ?_
  rintro e w2 ⟨t, m, b, rfl, hT, ht, hm, hb, hs2⟩
  have hsz1 := hs1.size
  have hsw : Same (fun k => w.heap.size ≤ k) w w2 := (hs1.trans hs2).mono (fun _ _ h => h.elim)
  have HT := Lib.hid hT
  have ht0 : w.heap.size ≤ t := by omega
  have hm0 : w.heap.size ≤ m := by omega
  have hb0 : w.heap.size ≤ b := by omega
  clear hT hs1 hs2 ht hm hb hsz1
  go_wp2
  go_loopw [8] (fun v8 wr => ∃ (i : Nat) (L : List Pr), i ≤ n ∧ v8 = .int .i64 i ∧ Rp i 0 g L ∧ TabAt wr t m L ((i : Int) + 1) ∧ (∀ p ∈ L, w.heap.size ≤ p.b) ∧ Same (fun k => w.heap.size ≤ k) w wr) (fun v8 _ => n - (intOf v8).toNat)
  case atStart => exact ⟨0, [one b], by omega, rfl, Rp.zero g b, HT.out, fun p hp => by obtain rfl := List.mem_singleton.1 hp; exact hb0, hsw⟩
  case round =>
    obtain ⟨i, L, hi1, rfl, hR, hTi, hLb, hsi⟩ := hrel
    by_cases hin : i < n
    · have hini : (i : Int) < n := by omega
      obtain ⟨p, hp⟩ := hR.rn1
      have HR := Lib.hid hR
      have HLB := Lib.hid hLb
      have HSI := Lib.hid hsi
      have hfk := fork_ok hTi 1 hp (hR.room (by omega)) (by omega) (by omega) hR.lastq
      have HF := Lib.hid hfk
      have hszi := hsi.size
      clear hR hLb hsi hTi hp hfk hsw
      go_wp2_with fail
      refine HF.out.mono ?_
      rintro e w3 ⟨b', rfl, hb', hT3, hs3⟩
      have HT3 := Lib.hid hT3
      have HS3 := Lib.hid hs3
      clear hT3 hs3
      go_wp2
      go_round
      case rel => exact ⟨i + 1, _, by omega, by go_num, HR.out.fork p b', by have := HT3.out; rw [show ((i + 1 : Nat) : Int) + 1 = (i : Int) + 1 + 1 by omega]; exact this, fun q hq => by
          rcases List.mem_append.1 hq with hq | hq
          · exact HLB.out q hq
          · obtain rfl := List.mem_singleton.1 hq; show w.heap.size ≤ b'; omega, HSI.out.trans (HS3.out.mono (fun k _ e => by omega))⟩
      case measure => simp [intOf]; omega
    · obtain rfl : i = n := by omega
      have hini : ¬ (i : Int) < i := by omega
      have HR := Lib.hid hR
      have HLB := Lib.hid hLb
      have HSI := Lib.hid hsi
      have HTI := Lib.hid hTi
      clear hR hLb hsi hTi hsw hini
      rename_i wrA _ _
      go_wp2
      go_loopw [9] (fun v9 wr => ∃ (j : Nat) (L : List Pr), j ≤ len2 ∧ j ≤ 20 ∧ v9 = .int .i64 j ∧ Rp i 0 g L ∧ TabAt wr t m L ((i : Int) + 1) ∧ (∀ p ∈ L, w.heap.size ≤ p.b) ∧ Same (fun k => w.heap.size ≤ k) w wr) (fun v9 _ => len2 - (intOf v9).toNat)
      case atStart => exact ⟨0, L, by omega, by omega, rfl, HR.out, HTI.out, HLB.out, HSI.out⟩
      case round =>
        obtain ⟨j, L, hj1, hj2, rfl, hR, hTi, hLb, hsi⟩ := hrel
        have HR := Lib.hid hR
        have HLB := Lib.hid hLb
        have HSI := Lib.hid hsi
        have HTI := Lib.hid hTi
        clear hR hLb hsi hTi
        by_cases hc : j < len2 ∧ j < 20 ∧ 0 < i
        · obtain ⟨hc1, hc2, hc3⟩ := hc
          have k1 : (j : Int) < len2 := by omega
          have k2 : (j : Int) < 20 := by omega
          have k3 : 0 < (i : Int) := by omega
          obtain ⟨x2, hax2, hcx2⟩ := HA2.out j hc1
          have hs0 := HSI.out
          have d2 := hs0.cell hcx2 (fun h => by have := World.block_lt_of_cell? _ _ hcx2; omega)
          have h0 : 0 ≤ IntKind.u64.wrap (op j) := by
            simp [IntKind.wrap, IntKind.signed, IntKind.bits]
            omega
          obtain ⟨r, hr1, hr2⟩ : ∃ r : Nat, r < i ∧ (IntKind.u64.wrap (op j)).tmod (i : Int) = (r : Int) := by
            refine ⟨((IntKind.u64.wrap (op j)).tmod (i : Int)).toNat, ?_, ?_⟩
            · have := Int.tmod_lt_of_pos (IntKind.u64.wrap (op j)) (b := (i : Int)) (by omega)
              have := Int.tmod_nonneg (i : Int) h0
              omega
            · have := Int.tmod_nonneg (i : Int) h0
              omega
          obtain ⟨x1, hax1, hcx1⟩ := HA.out r (by omega)
          have d1 := hs0.cell hcx1 (fun h => by have := World.block_lt_of_cell? _ _ hcx1; omega)
          have hrl : (r : Int) < len := by omega
          subst hax1
          subst hax2
          clear hcx1 hcx2 hs0 h0
          go_wp2_with fail
          have hgr := hg r
          have hrq : ∃ o er, rn L ((r : Int) + 2) = (o, er) := ⟨_, _, rfl⟩
          obtain ⟨o, er, hrn⟩ := hrq
          cases o with
          | none =>
            refine (exit_bad HTI.out ((r : Int) + 2) (g r) hrn).mono ?_
            rintro e w3 ⟨rfl, hs3⟩
            clear hgr
            go_wp2
            go_round
            case rel => exact ⟨j + 1, L, by omega, by omega, by go_num, HR.out, HTI.out.same0 hs3, HLB.out, HSI.out.trans (hs3.mono (fun _ _ h => h.elim))⟩
            case measure => simp [intOf]; omega
          | some p =>
            obtain ⟨hq1, hq2, hq3⟩ := rn_some hrn
            refine (exit_ok HTI.out (HR.out.bd hn10) ((r : Int) + 2) (g r) hrn hgr.2.1 hgr.2.2 (by omega)).mono ?_
            rintro e w3 ⟨rfl, hT3, hs3⟩
            have HT3 := Lib.hid hT3
            have hs3' := HSI.out.trans (hs3.mono (fun k _ e => own_new2 ht0 hm0 HLB.out e))
            have hfr := fresh_put HLB.out (lget_some hq1).1 (p' := { p with st := 3, stat := g r }) rfl ((r : Int) + 2)
            have hRe := HR.out.exit hrn
            have HH := Lib.hid (And.intro hs3' (And.intro hfr hRe))
            clear hgr hT3 hs3 hs3' hfr hRe hq1 hq2 hq3 hrn
            go_wp2
            go_round
            case rel => exact ⟨j + 1, _, by omega, by omega, by go_num, HH.out.2.2, HT3.out, HH.out.2.1, HH.out.1⟩
            case measure => simp [intOf]; omega
        · rcases (by omega : ¬ j < len2 ∨ (j < len2 ∧ ¬ j < 20) ∨ (j < len2 ∧ j < 20 ∧ i = 0)) with hc1 | ⟨hc1, hc2⟩ | ⟨hc1, hc2, hc3⟩
          · have k1 : decide ((j : Int) < len2) = false := by simp; omega
            clear hc
            go_wp2
            go_loopw [11] (fun v11 wr => ∃ (k : Nat) (L : List Pr), k ≤ i ∧ v11 = .int .i64 k ∧ Rp i k g L ∧ TabAt wr t m L ((i : Int) + 1) ∧ Same (fun k => w.heap.size ≤ k) w wr) (fun v11 _ => i - (intOf v11).toNat)
            case atStart => exact ⟨0, L, by omega, rfl, HR.out, HTI.out, HSI.out⟩
            case round =>
              obtain ⟨k, L, hk1, rfl, hR, hTi, hsi⟩ := hrel
              have HR := Lib.hid hR
              have HSI := Lib.hid hsi
              have HTI := Lib.hid hTi
              obtain ⟨p1, hp1⟩ := hR.rn1
              have HP1 := Lib.hid hp1
              have hszi := hsi.size
              clear hR hsi hTi hp1
              by_cases hki : k < i
              · have e1 : (k : Int) < i := by omega
                have hga := get_any HTI.out ((k : Int) + 2)
                cases hg2 : lget L ((k : Int) + 2) with
                | none =>
                  rw [hg2] at hga
                  simp only [getv, fe, Pr.zero] at hga
                  have hsk := HR.out.skip (fun z hz => by rw [hg2] at hz; cases hz)
                  have HSKP := Lib.hid hsk
                  clear hsk hg2
                  go_wp2_with fail
                  refine hga.mono ?_
                  rintro e w5 ⟨rfl, hs5⟩
                  have HS5 := Lib.hid hs5
                  clear hga hs5
                  go_wp2
                  go_round
                  case rel => exact ⟨k + 1, L, by omega, by go_num, HSKP.out, HTI.out.same0 (HS5.out.alloc _), HSI.out.trans ((HS5.out.alloc _).mono (fun _ _ h => h.elim))⟩
                  case measure => simp [intOf]; omega
                | some z =>
                  rw [hg2] at hga
                  simp only [getv, fe, Pr.agg] at hga
                  by_cases h3 : z.st = 3
                  · rw [h3] at hga
                    obtain ⟨hf1, hf2, hf3⟩ := HR.out.find hg2 h3
                    have hre := HR.out.reap hf2
                    obtain ⟨x1, hax1, hcx1⟩ := HA.out k (by omega)
                    have hkl : (k : Int) < len := by omega
                    subst hax1
                    have hb1 := World.block_lt_of_cell? _ _ hcx1
                    have HF := Lib.hid (And.intro hf1 (And.intro hf2 (And.intro hf3 (And.intro hre hcx1))))
                    clear hf1 hf2 hf3 hre hcx1 hg2 h3
                    go_wp2_with fail
                    refine hga.mono ?_
                    rintro e w5 ⟨rfl, hs5⟩
                    have HT5 := Lib.hid (HTI.out.same0 (hs5.alloc (.cells #[.int .i64 z.pid, .int .i64 z.par, .int .i64 3, .int .i64 z.uid, .int .i64 z.gid, .string z.ch, .int .i64 z.stat, .bool z.kil] 34)))
                    have HS5 := Lib.hid (HSI.out.trans ((hs5.alloc (.cells #[.int .i64 z.pid, .int .i64 z.par, .int .i64 3, .int .i64 z.uid, .int .i64 z.gid, .string z.ch, .int .i64 z.stat, .bool z.kil] 34)).mono (T := fun k => w.heap.size ≤ k) (fun _ _ h => h.elim)))
                    clear hga hs5
                    go_wp2_with fail
                    refine (wait_any HT5.out (HR.out.bd hn10) 1 HP1.out).mono ?_
                    rintro e w6 (⟨hnone, -, -⟩ | ⟨z', hz', rfl, hT6, hs6⟩)
                    · exact absurd hnone (by rw [HF.out.1]; simp)
                    · have hzz : z' = z := by have := HF.out.1; rw [hz'] at this; exact Option.some.inj this
                      subst hzz
                      have HS6 := Lib.hid (HS5.out.trans (hs6.mono (T := fun k => w.heap.size ≤ k) (fun k _ e => by omega)))
                      have d1 := HS6.out.cell HF.out.2.2.2.2 (fun h => by omega)
                      have HT6 := Lib.hid hT6
                      rw [HF.out.2.1, HF.out.2.2.1]
                      clear hT6 hs6 hz'
                      go_wp2
                      go_round
                      case rel => exact ⟨k + 1, _, by omega, by go_num, HF.out.2.2.2.1, HT6.out, HS6.out⟩
                      case measure => simp [intOf]; omega
                  · have h3' : (z.st == 3) = false := by simpa using h3
                    have hsk := HR.out.skip (fun z' hz => by rw [hg2] at hz; cases hz; exact h3)
                    have HSKP := Lib.hid hsk
                    clear hsk hg2 h3
                    go_wp2_with fail
                    refine hga.mono ?_
                    rintro e w5 ⟨rfl, hs5⟩
                    have HS5 := Lib.hid hs5
                    clear hga hs5
                    go_wp2
                    go_round
                    case rel => exact ⟨k + 1, L, by omega, by go_num, HSKP.out, HTI.out.same0 (HS5.out.alloc _), HSI.out.trans ((HS5.out.alloc _).mono (fun _ _ h => h.elim))⟩
                    case measure => simp [intOf]; omega
              · obtain rfl : k = i := by omega
                have hnone := HR.out.none
                have hwn := wr_not2 L 1 L.length
                have HW := Lib.hid (wait_any HTI.out (HR.out.bd hn10) 1 HP1.out)
                go_wp2_with fail
                refine HW.out.mono ?_
                rintro e w6 (⟨-, rfl, hs6⟩ | ⟨z', hz', -⟩)
                · have HS6 := Lib.hid hs6
                  clear hs6 hnone
                  go_wp2
                  go_ret
                  exact ⟨rfl, (HSI.out.trans (HS6.out.mono (T := fun k => w.heap.size ≤ k) (fun _ _ h => h.elim))).mono (fun k hk h => by omega)⟩
                · rw [hnone] at hz'; cases hz'
          · have k1 : (j : Int) < len2 := by omega
            have k2 : decide ((j : Int) < 20) = false := by simp; omega
            clear hc
            go_wp2
            go_loopw [11] (fun v11 wr => ∃ (k : Nat) (L : List Pr), k ≤ i ∧ v11 = .int .i64 k ∧ Rp i k g L ∧ TabAt wr t m L ((i : Int) + 1) ∧ Same (fun k => w.heap.size ≤ k) w wr) (fun v11 _ => i - (intOf v11).toNat)
            case atStart => exact ⟨0, L, by omega, rfl, HR.out, HTI.out, HSI.out⟩
            case round =>
              obtain ⟨k, L, hk1, rfl, hR, hTi, hsi⟩ := hrel
              have HR := Lib.hid hR
              have HSI := Lib.hid hsi
              have HTI := Lib.hid hTi
              obtain ⟨p1, hp1⟩ := hR.rn1
              have HP1 := Lib.hid hp1
              have hszi := hsi.size
              clear hR hsi hTi hp1
              by_cases hki : k < i
              · have e1 : (k : Int) < i := by omega
                have hga := get_any HTI.out ((k : Int) + 2)
                cases hg2 : lget L ((k : Int) + 2) with
                | none =>
                  rw [hg2] at hga
                  simp only [getv, fe, Pr.zero] at hga
                  have hsk := HR.out.skip (fun z hz => by rw [hg2] at hz; cases hz)
                  have HSKP := Lib.hid hsk
                  clear hsk hg2
                  go_wp2_with fail
                  refine hga.mono ?_
                  rintro e w5 ⟨rfl, hs5⟩
                  have HS5 := Lib.hid hs5
                  clear hga hs5
                  go_wp2
                  go_round
                  case rel => exact ⟨k + 1, L, by omega, by go_num, HSKP.out, HTI.out.same0 (HS5.out.alloc _), HSI.out.trans ((HS5.out.alloc _).mono (fun _ _ h => h.elim))⟩
                  case measure => simp [intOf]; omega
                | some z =>
                  rw [hg2] at hga
                  simp only [getv, fe, Pr.agg] at hga
                  by_cases h3 : z.st = 3
                  · rw [h3] at hga
                    obtain ⟨hf1, hf2, hf3⟩ := HR.out.find hg2 h3
                    have hre := HR.out.reap hf2
                    obtain ⟨x1, hax1, hcx1⟩ := HA.out k (by omega)
                    have hkl : (k : Int) < len := by omega
                    subst hax1
                    have hb1 := World.block_lt_of_cell? _ _ hcx1
                    have HF := Lib.hid (And.intro hf1 (And.intro hf2 (And.intro hf3 (And.intro hre hcx1))))
                    clear hf1 hf2 hf3 hre hcx1 hg2 h3
                    go_wp2_with fail
                    refine hga.mono ?_
                    rintro e w5 ⟨rfl, hs5⟩
                    have HT5 := Lib.hid (HTI.out.same0 (hs5.alloc (.cells #[.int .i64 z.pid, .int .i64 z.par, .int .i64 3, .int .i64 z.uid, .int .i64 z.gid, .string z.ch, .int .i64 z.stat, .bool z.kil] 34)))
                    have HS5 := Lib.hid (HSI.out.trans ((hs5.alloc (.cells #[.int .i64 z.pid, .int .i64 z.par, .int .i64 3, .int .i64 z.uid, .int .i64 z.gid, .string z.ch, .int .i64 z.stat, .bool z.kil] 34)).mono (T := fun k => w.heap.size ≤ k) (fun _ _ h => h.elim)))
                    clear hga hs5
                    go_wp2_with fail
                    refine (wait_any HT5.out (HR.out.bd hn10) 1 HP1.out).mono ?_
                    rintro e w6 (⟨hnone, -, -⟩ | ⟨z', hz', rfl, hT6, hs6⟩)
                    · exact absurd hnone (by rw [HF.out.1]; simp)
                    · have hzz : z' = z := by have := HF.out.1; rw [hz'] at this; exact Option.some.inj this
                      subst hzz
                      have HS6 := Lib.hid (HS5.out.trans (hs6.mono (T := fun k => w.heap.size ≤ k) (fun k _ e => by omega)))
                      have d1 := HS6.out.cell HF.out.2.2.2.2 (fun h => by omega)
                      have HT6 := Lib.hid hT6
                      rw [HF.out.2.1, HF.out.2.2.1]
                      clear hT6 hs6 hz'
                      go_wp2
                      go_round
                      case rel => exact ⟨k + 1, _, by omega, by go_num, HF.out.2.2.2.1, HT6.out, HS6.out⟩
                      case measure => simp [intOf]; omega
                  · have h3' : (z.st == 3) = false := by simpa using h3
                    have hsk := HR.out.skip (fun z' hz => by rw [hg2] at hz; cases hz; exact h3)
                    have HSKP := Lib.hid hsk
                    clear hsk hg2 h3
                    go_wp2_with fail
                    refine hga.mono ?_
                    rintro e w5 ⟨rfl, hs5⟩
                    have HS5 := Lib.hid hs5
                    clear hga hs5
                    go_wp2
                    go_round
                    case rel => exact ⟨k + 1, L, by omega, by go_num, HSKP.out, HTI.out.same0 (HS5.out.alloc _), HSI.out.trans ((HS5.out.alloc _).mono (fun _ _ h => h.elim))⟩
                    case measure => simp [intOf]; omega
              · obtain rfl : k = i := by omega
                have hnone := HR.out.none
                have hwn := wr_not2 L 1 L.length
                have HW := Lib.hid (wait_any HTI.out (HR.out.bd hn10) 1 HP1.out)
                go_wp2_with fail
                refine HW.out.mono ?_
                rintro e w6 (⟨-, rfl, hs6⟩ | ⟨z', hz', -⟩)
                · have HS6 := Lib.hid hs6
                  clear hs6 hnone
                  go_wp2
                  go_ret
                  exact ⟨rfl, (HSI.out.trans (HS6.out.mono (T := fun k => w.heap.size ≤ k) (fun _ _ h => h.elim))).mono (fun k hk h => by omega)⟩
                · rw [hnone] at hz'; cases hz'
          · have k1 : (j : Int) < len2 := by omega
            have k2 : (j : Int) < 20 := by omega
            have k3 : decide (0 < (i : Int)) = false := by simp; omega
            clear hc
            go_wp2
            go_loopw [11] (fun v11 wr => ∃ (k : Nat) (L : List Pr), k ≤ i ∧ v11 = .int .i64 k ∧ Rp i k g L ∧ TabAt wr t m L ((i : Int) + 1) ∧ Same (fun k => w.heap.size ≤ k) w wr) (fun v11 _ => i - (intOf v11).toNat)
            case atStart => exact ⟨0, L, by omega, rfl, HR.out, HTI.out, HSI.out⟩
            case round =>
              obtain ⟨k, L, hk1, rfl, hR, hTi, hsi⟩ := hrel
              have HR := Lib.hid hR
              have HSI := Lib.hid hsi
              have HTI := Lib.hid hTi
              obtain ⟨p1, hp1⟩ := hR.rn1
              have HP1 := Lib.hid hp1
              have hszi := hsi.size
              clear hR hsi hTi hp1
              by_cases hki : k < i
              · omega
              · obtain rfl : k = i := by omega
                have hnone := HR.out.none
                have hwn := wr_not2 L 1 L.length
                have HW := Lib.hid (wait_any HTI.out (HR.out.bd hn10) 1 HP1.out)
                go_wp2_with fail
                refine HW.out.mono ?_
                rintro e w6 (⟨-, rfl, hs6⟩ | ⟨z', hz', -⟩)
                · have HS6 := Lib.hid hs6
                  clear hs6 hnone
                  go_wp2
                  go_ret
                  exact ⟨rfl, (HSI.out.trans (HS6.out.mono (T := fun k => w.heap.size ≤ k) (fun _ _ h => h.elim))).mono (fun k hk h => by omega)⟩
                · rw [hnone] at hz'; cases hz'
end Go.Proofs.Ytaeabeofpkfadaa
