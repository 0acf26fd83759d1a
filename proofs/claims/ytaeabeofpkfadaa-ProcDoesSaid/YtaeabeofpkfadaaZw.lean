/- The walk of ProcZombies. Conditions: the arguments' form. -/
import Derived.Test.YtaeabeofpkfadaaR
import Derived.Test.YtaeabeofpkfadaaAct
import Derived.Test.YtaeabeofpkfadaaEq
import Derived.Test.YtaeabeofpkfadaaAp
import Derived.Laws.Small
import Derived.Deep.QuietTactic
import Derived.BigQuiet
import Derived.BigRegion
namespace Go.Proofs.Ytaeabeofpkfadaa
open Go.RowKit Go.Shelf
attribute [local go_sem] Oper.semAt_some

/-- The cells of a list of processes. -/
def flat (L : List Pr) : List Value := L.flatMap Pr.vals
theorem flat_len (L : List Pr) : (flat L).length = L.length * 8 := by
  induction L with
  | nil => rfl
  | cons p L ih => simp only [flat, List.flatMap_cons, List.length_append, List.length_cons] at ih ⊢; rw [ih]; show 8 + _ = _; omega
theorem flat_at {L : List Pr} {k j : Nat} {p : Pr} {v : Value} (hp : L[k]? = some p) (hv : p.vals[j]? = some v) : (flat L)[k * 8 + j]? = some v := by
  induction L generalizing k with
  | nil => simp at hp
  | cons q L ih =>
    have h8 : q.vals.length = 8 := rfl
    have hj : j < 8 := (List.getElem?_eq_some_iff.1 hv).1
    unfold flat at ih ⊢
    rw [List.flatMap_cons]
    cases k with
    | zero =>
      simp only [List.getElem?_cons_zero, Option.some.injEq] at hp
      subst hp
      rw [List.getElem?_append_left (by omega)]
      simpa using hv
    | succ k =>
      simp only [List.getElem?_cons_succ] at hp
      rw [List.getElem?_append_right (by omega), show (k + 1) * 8 + j - q.vals.length = k * 8 + j by omega]
      exact ih hp
theorem flat_succ {L : List Pr} {k : Nat} {p : Pr} (hp : L[k]? = some p) : flat (L.take (k + 1)) = flat (L.take k) ++ p.vals := by
  unfold flat
  rw [List.take_add_one, hp]
  simp
set_option maxHeartbeats 6400000 in
set_option maxRecDepth 16384 in
theorem zombies_walk (w : World) (a : Option Addr) (len cap : Nat) (g : Nat → Do) (hlen : len ≤ 9223372036854775807) (ha : ActsAt w a len g) :
    Calls Try.prog 8 #[.slice a len cap] w fun e w' => e = .returned (.bool true) ∧ Same (fun _ => False) w w' := by
  have HA := Lib.hid ha
  clear ha
  go_enter Try.func8, Try.ntmps8
  go_wp2_with fail
  refine (shown_any _).mono ?_
  rintro e w1 ⟨rfl, hs1⟩
  go_wp2_with fail
  refine (new_any _).mono ?_
  rintro e w2 ⟨t, m, b, rfl, hT, ht, hm, hb, hs2⟩
  have hsz1 := hs1.size
  have hsw : Same (fun k => w.heap.size ≤ k) w w2 := (hs1.trans hs2).mono (fun _ _ h => h.elim)
  have HT := Lib.hid (new_one hT (show w.heap.size ≤ b by omega))
  have ht0 : w.heap.size ≤ t := by omega
  have hm0 : w.heap.size ≤ m := by omega
  clear hT hs1 hs2 ht hm hb hsz1
  go_wp2
  go_loopw [5] (fun v5 wr => ∃ (i : Nat) (L : List Pr) (last : Int), i ≤ len ∧ i ≤ 150 ∧ v5 = .int .i64 i ∧ TabI wr t m L last ∧ (∀ p ∈ L, w.heap.size ≤ p.b) ∧ Same (fun k => w.heap.size ≤ k) w wr) (fun v5 _ => len - (intOf v5).toNat)
  case atStart => exact ⟨0, [one b], 1, by omega, by omega, rfl, HT.out.1, HT.out.2, hsw⟩
  case round =>
    obtain ⟨i, L, last, hi1, hi2, rfl, hTi, hLb, hsi⟩ := hrel
    by_cases hik : i < len ∧ i < 150
    · obtain ⟨hlt, hlt150⟩ := hik
      have hil : (i : Int) < len := by omega
      have hi150 : (i : Int) < 150 := by omega
      obtain ⟨x, hax, hact⟩ := HA.out i hlt
      subst hax
      have hln : L.length = (L.length - 1) + 1 := by have := List.length_pos_iff.2 hTi.ne; omega
      obtain ⟨n', hn'⟩ : ∃ n', L.length = n' + 1 := ⟨_, hln⟩
      have hn16 := hTi.inv.len
      have HI := Lib.hid hTi.inv
      have HLB := Lib.hid hLb
      have HSI := Lib.hid hsi
      have HP := Lib.hid (pids_any hTi.tab hTi.inv.bd)
      have HTI := Lib.hid hTi
      have HACT := Lib.hid hact
      clear hact hTi hLb hln hsw hsi
      go_wp2_with fail
      refine HP.out.mono ?_
      rintro e w4 ⟨v, rfl, hrow, -, hs4⟩
      rw [hn'] at hrow
      obtain ⟨gb, cap', rfl⟩ := own_row_succ hrow
      have hs4' := HSI.out.trans (hs4.mono (T := fun k => w.heap.size ≤ k) (fun _ _ h => h.elim))
      have HT4 := Lib.hid (HTI.out.tab.same0 hs4)
      have HROW := Lib.hid hrow
      have HS4 := Lib.hid hs4'
      have hgb := (hrow.lt gb rfl)
      have hsz3 := hs4'.size
      clear hrow hs4 hs4'
      go_wp2
      go_loopw [7, 8] (fun v7 v8 wx => ∃ (k : Nat) (vv : Value) (wr2 : World), vv = v7 ∧ wr2 = wx ∧ k ≤ n' + 1 ∧ v8 = .int .i64 k ∧ TabAt wr2 t m L last ∧ wr2.ownsRow wr.heap.size 3 1 (.slice (some ⟨gb, 0, none⟩) (n' + 1) cap') (n' + 1) (pidv L) ∧ wr2.ownsRow w4.heap.size 34 8 vv k (flat (L.take k)) ∧ Same (fun k => w.heap.size ≤ k) w wr2 ∧ w4.heap.size ≤ wr2.heap.size) (fun _ v8 _ => n' + 1 - (intOf v8).toNat)
      case atStart => exact ⟨0, _, _, rfl, rfl, by omega, rfl, HT4.out, HROW.out, World.ownsRow_nil _ _ _ _, HS4.out, Nat.le_refl _⟩
      case round =>
        obtain ⟨k, v7, wr2, hvv, hww, hk, rfl, hTk, hrk, hwk, hsk, hzk⟩ := hrel
        subst hvv
        subst hww
        by_cases hkk : k < n' + 1
        · have hki : (k : Int) < n' + 1 := by omega
          obtain ⟨p, hp⟩ : ∃ p, L[k]? = some p := ⟨_, List.getElem?_eq_getElem (by omega)⟩
          have hpm := List.mem_of_getElem? hp
          have c0 := hrk.cells (g := gb) rfl k (.int .i64 p.pid) (by unfold pidv; rw [List.getElem?_map, hp]; rfl)
          rw [show (⟨gb, 0, none⟩ : Addr).add k = ⟨gb, k, none⟩ by simp [Addr.add]; intro h; exact h.symm] at c0
          have hga := get_any hTk p.pid
          rw [HI.out.get hpm] at hga
          simp only [getv, fe, Pr.agg] at hga
          have HTK := Lib.hid hTk
          have HRK := Lib.hid hrk
          have HWK := Lib.hid hwk
          have HSK := Lib.hid hsk
          have hfs := flat_succ hp
          have HFS := Lib.hid hfs
          clear hTk hrk hwk hsk hpm hp hfs
          go_wp2_with fail
          refine hga.mono ?_
          rintro e w5 ⟨rfl, hs5⟩
          have HS5 := Lib.hid hs5
          clear hga c0 hs5
          obtain ⟨i0, hi0, hq0, hq1, hq2⟩ := info_parts Try.info34
          have hsA : Same (fun _ => False) w5 ((w5.alloc (.cells #[.int .i64 p.pid, .int .i64 p.par, .int .i64 p.st, .int .i64 p.uid, .int .i64 p.gid, .string p.ch, .int .i64 p.stat, .bool p.kil] 34)).alloc (.cells #[.int .i64 p.pid, .int .i64 p.par, .int .i64 p.st, .int .i64 p.uid, .int .i64 p.gid, .string p.ch, .int .i64 p.stat, .bool p.kil] 34)) := (same_alloc _).alloc _
          have hown5 := ownsRow_same (ownsRow_same HWK.out HS5.out (fun _ _ h => h)) hsA (fun _ _ h => h)
          have hc1 : ∀ j u, p.vals[j]? = some u → ((w5.alloc (.cells #[.int .i64 p.pid, .int .i64 p.par, .int .i64 p.st, .int .i64 p.uid, .int .i64 p.gid, .string p.ch, .int .i64 p.stat, .bool p.kil] 34)).alloc (.cells #[.int .i64 p.pid, .int .i64 p.par, .int .i64 p.st, .int .i64 p.uid, .int .i64 p.gid, .string p.ch, .int .i64 p.stat, .bool p.kil] 34)).cell? ((⟨w5.heap.size + 1, 0, none⟩ : Addr).add j) = some u := fun j u hu => cells_new (by simp) hu
          have hc2 : ∀ u ∈ p.vals, u.oneCell' = true := by simp [Pr.vals, Value.oneCell']
          have hc3 : k + 1 ≤ maxLen := by unfold maxLen; omega
          have hc4 : (k + 1) * 72 ≤ 140737488355328 := by omega
          have hc5 := Nat.le_trans (Nat.le_trans hzk HS5.out.size) hsA.size
          have HK := Lib.hid (And.intro hsA (And.intro hown5 (And.intro hc1 (And.intro hc2 (And.intro hc3 (And.intro hc4 hc5))))))
          clear hsA hown5 hc1 hc2 hc3 hc4 hc5
          go_wp2_with (refine wpList_append_same rfl _ _ 48 rfl w4.heap.size 34 i0 Pr.zero 8 72 Try.underlying48 hi0 hq0 hq1 hq2 rfl (by decide) _ _ _ rfl HK.out.2.1 ⟨w5.heap.size + 1, 0, none⟩ 1 1 p.vals rfl rfl HK.out.2.2.1 HK.out.2.2.2.1 HK.out.2.2.2.2.1 HK.out.2.2.2.2.2.1 HK.out.2.2.2.2.2.2 ?_; intro v' w6 hown6 hsame6 hblk6)
          have hlt4 := HT4.out.lt
          have hvb : ∀ b, b < w4.heap.size → ¬ v7.ownBlock = some b := fun b hb h => by have := (ownsRow_shape HWK.out h).1; omega
          have hs56 := HS5.out.trans HK.out.1
          have hT6 := (HTK.out.same0 hs56).same hsame6 (fun b hb => hvb b (by
            rcases hb with hb | hb | ⟨q, hq, hb⟩
            · omega
            · omega
            · have := hlt4.2.2 q hq; omega))
          have hr6 := ownsRow_same (ownsRow_same HRK.out hs56 (fun _ _ h => h)) hsame6 (fun gx hgx => by
            have hgx2 : gb = gx := by simpa [Value.ownBlock] using hgx
            exact hvb gx (by have := hgb.2; omega))
          have hs6 := (HSK.out.trans (hs56.mono (T := fun k => w.heap.size ≤ k) (fun _ _ h => h.elim))).trans (hsame6.mono (fun kk _ h => by
            have := (ownsRow_shape HWK.out h).1
            omega))
          have hz6 : w4.heap.size ≤ w6.heap.size := by have := hs56.size; have := hsame6.size; omega
          go_round
          case rel => exact ⟨k + 1, _, _, rfl, rfl, by omega, by go_num, hT6, hr6, by rw [HFS.out]; exact hown6, hs6, hz6⟩
          case measure => simp [intOf]; omega
        · obtain rfl : k = n' + 1 := by omega
          have hfull : L.take (n' + 1) = L := by rw [← hn', List.take_length]
          rw [hfull] at hwk
          obtain ⟨gw, capw, rfl⟩ := own_row_succ hwk
          have hact' := HACT.out.same hsk (fun b hb h => by omega)
          have hTI2 : TabI wr2 t m L last := ⟨hTk, HI.out⟩
          have HD := Lib.hid (done_any hTI2 (g i).d (g i).pid (g i).stat (g i).uid (g i).gid (g i).ch)
          obtain ⟨a0, a1, a2, a3, a4, a5⟩ := hact'
          have HWK := Lib.hid hwk
          have HSK := Lib.hid hsk
          have hlt4 := HT4.out.lt
          have hgw := (ownsRow_shape hwk rfl)
          clear hTk hrk hwk hsk hTI2
          go_wp2_with fail
          refine HD.out.mono ?_
          rintro e w7 ⟨b', rfl, hb', hT7, hs7⟩
          obtain ⟨X, hX⟩ : ∃ X : Do, X = ⟨(g i).d, (g i).pid, (g i).stat, (g i).uid, (g i).gid, txt (g i).ch⟩ := ⟨_, rfl⟩
          have hXd : (g i).d = X.d := by rw [hX]
          have hXp : (g i).pid = X.pid := by rw [hX]
          rw [← hX] at hT7 ⊢
          have hLb7 : ∀ p ∈ actL L last X b', w.heap.size ≤ p.b := act_fresh HLB.out (by have := HSK.out.size; omega)
          have hs7' := HSK.out.trans (hs7.mono (fun k _ e => own_new ht0 hm0 HLB.out e))
          have hw7 := ownsRow_same HWK.out hs7 (fun gx hgx hh => by
            have hgx2 := (ownsRow_shape HWK.out hgx).1
            rcases hh with hh | hh | ⟨q, hq, hh⟩
            · omega
            · omega
            · have := hlt4.2.2 q hq; omega)
          have hI7 := HI.out.act X b'
          have HZ := Lib.hid (fun (q : Pr) (hq : q ∈ L) (h3 : q.st = 3) => zombie_keeps HI.out hq h3 X b')
          obtain ⟨L', hL'⟩ : ∃ L', L' = actL L last X b' := ⟨_, rfl⟩
          obtain ⟨last', hlast'⟩ : ∃ last', last' = actLast L last X := ⟨_, rfl⟩
          rw [← hL'] at hT7 hLb7 hI7 HZ
          rw [← hlast'] at hT7 hI7
          have HE := Lib.hid (And.intro hT7 (And.intro hLb7 (And.intro hs7' (And.intro hw7 hI7))))
          clear hT7 hLb7 hs7' hw7 hI7 hs7 hX hL' hlast' a0 a1 a2 a3 a4 a5 hb'
          go_wp2
          go_loopw [11] (fun v11 wx => ∃ (k : Nat) (wr3 : World), wr3 = wx ∧ k ≤ n' + 1 ∧ v11 = .int .i64 k ∧ TabAt wr3 t m L' last' ∧ wr3.ownsRow w4.heap.size 34 8 (.slice (some ⟨gw, 0, none⟩) (n' + 1) capw) (n' + 1) (flat L) ∧ Same (fun k => w.heap.size ≤ k) w wr3) (fun v11 _ => n' + 1 - (intOf v11).toNat)
          case atStart => exact ⟨0, _, rfl, by omega, rfl, HE.out.1, HE.out.2.2.2.1, HE.out.2.2.1⟩
          case round =>
            obtain ⟨k, wr3, hww, hk, rfl, hTk, hwk, hsk⟩ := hrel
            subst hww
            by_cases hkk : k < n' + 1
            · have hki : (k : Int) < n' + 1 := by omega
              obtain ⟨p, hp⟩ : ∃ p, L[k]? = some p := ⟨_, List.getElem?_eq_getElem (by omega)⟩
              have hpm := List.mem_of_getElem? hp
              have hcell : ∀ j v, p.vals[j]? = some v → wr3.cell? ⟨gw, k * 8 + j, none⟩ = some v := fun j v hv => by
                have := hwk.cells (g := gw) rfl (k * 8 + j) v (flat_at hp hv)
                rwa [show (⟨gw, 0, none⟩ : Addr).add (k * 8 + j) = ⟨gw, k * 8 + j, none⟩ by simp [Addr.add]; omega] at this
              have f2 := hcell 2 _ rfl
              have f0 : wr3.cell? ⟨gw, k * 8, none⟩ = some (.int .i64 p.pid) := hcell 0 _ rfl
              have HTK := Lib.hid hTk
              have HWK := Lib.hid hwk
              have HSK := Lib.hid hsk
              have HC := Lib.hid hcell
              clear hTk hwk hsk hp hcell
              by_cases h3 : p.st = 3
              · have hga := get_any HTK.out p.pid
                rw [h3] at f2
                have f1 := HC.out 1 _ rfl
                have hgwl := World.block_lt_of_cell? _ _ f2
                have ha3 := HACT.out.same HSK.out (fun b hb h => by omega)
                obtain ⟨b0, b1, -, -, -, -⟩ := ha3
                rw [hXd] at b0
                rw [hXp] at b1
                have hxl := World.block_lt_of_cell? _ _ b0
                rcases HZ.out p hpm h3 with ⟨z1, z2, z3⟩ | ⟨q', z1, z2⟩
                · rw [z1] at hga
                  simp only [getv, fe, Pr.zero] at hga
                  have hw8 := wrap8 X.d
                  rw [z2] at hw8
                  rw [z3] at b1
                  clear z1 z2 z3 h3 hpm
                  go_wp2_with fail
                  refine hga.mono ?_
                  rintro e w8 ⟨rfl, hs8⟩
                  have hsx := hs8.alloc (.cells #[.int .i64 0, .int .i64 0, .int .i64 0, .int .i64 0, .int .i64 0, .string ⟨#[]⟩, .int .i64 0, .bool false] 34)
                  have d0 := hs8.cell b0 (fun h => h)
                  have d1 := hs8.cell b1 (fun h => h)
                  have d2 := hs8.cell f1 (fun h => h)
                  have e0 := World.block_lt_of_cell? _ _ d0
                  have e2 := World.block_lt_of_cell? _ _ d2
                  have HSX := Lib.hid hsx
                  clear hga b0 b1 f0 f1 f2 hs8 hsx
                  have g0 := (same_alloc (W := w8) (.cells #[.int .i64 0, .int .i64 0, .int .i64 0, .int .i64 0, .int .i64 0, .string ⟨#[]⟩, .int .i64 0, .bool false] 34)).cell d0 (fun h => h)
                  have g1 := (same_alloc (W := w8) (.cells #[.int .i64 0, .int .i64 0, .int .i64 0, .int .i64 0, .int .i64 0, .string ⟨#[]⟩, .int .i64 0, .bool false] 34)).cell d1 (fun h => h)
                  have g2 := (same_alloc (W := w8) (.cells #[.int .i64 0, .int .i64 0, .int .i64 0, .int .i64 0, .int .i64 0, .string ⟨#[]⟩, .int .i64 0, .bool false] 34)).cell d2 (fun h => h)
                  clear d0 d1 d2
                  go_wp2
                  go_quiet (fail)
                  rename_i nq
                  have hsB := HSX.out.drewN nq
                  have HSB := Lib.hid hsB
                  clear hsB
                  go_wp2
                  go_round
                  case rel => exact ⟨k + 1, _, rfl, by omega, by go_num, HTK.out.same0 HSB.out, ownsRow_same HWK.out HSB.out (fun _ _ h => h), HSK.out.trans (HSB.out.mono (fun _ _ h => h.elim))⟩
                  case measure => simp [intOf]; omega
                · rw [z1] at hga
                  simp only [getv, fe, Pr.agg] at hga
                  rw [z2.pid, z2.st, z2.ch, z2.stat, z2.kil] at hga
                  clear b0 b1 z1 z2 f1 h3 hpm
                  go_wp2_with fail
                  refine hga.mono ?_
                  rintro e w8 ⟨rfl, hs8⟩
                  obtain ⟨V1, hV1⟩ : ∃ V1, V1 = w8.alloc (.cells #[.int .i64 p.pid, .int .i64 q'.par, .int .i64 p.st, .int .i64 q'.uid, .int .i64 q'.gid, .string p.ch, .int .i64 p.stat, .bool p.kil] 34) := ⟨_, rfl⟩
                  obtain ⟨V2, hV2⟩ : ∃ V2, V2 = w8.alloc (.cells #[.int .i64 p.pid, .int .i64 p.par, .int .i64 p.st, .int .i64 q'.uid, .int .i64 q'.gid, .string p.ch, .int .i64 p.stat, .bool p.kil] 34) := ⟨_, rfl⟩
                  obtain ⟨V3, hV3⟩ : ∃ V3, V3 = w8.alloc (.cells #[.int .i64 p.pid, .int .i64 p.par, .int .i64 p.st, .int .i64 p.uid, .int .i64 p.gid, .string p.ch, .int .i64 p.stat, .bool p.kil] 34) := ⟨_, rfl⟩
                  have t1 : Same (fun k => k = w8.heap.size) w8 V1 := by rw [hV1]; exact (same_alloc _).mono (fun _ _ h => h.elim)
                  have t2 : Same (fun k => k = w8.heap.size) w8 V2 := by rw [hV2]; exact (same_alloc _).mono (fun _ _ h => h.elim)
                  have t3 : Same (fun k => k = w8.heap.size) w8 V3 := by rw [hV3]; exact (same_alloc _).mono (fun _ _ h => h.elim)
                  have hgw8 : gw < w8.heap.size := World.block_lt_of_cell? _ _ (hs8.cell f2 (fun h => h))
                  have cc : ∀ W, Same (fun k => k = w8.heap.size) w8 W → ∀ j v, p.vals[j]? = some v → W.cell? ⟨gw, k * 8 + j, none⟩ = some v := fun W hW j v hv => hW.cell (hs8.cell (HC.out j v hv) (fun h => h)) (by simp only; omega)
                  have n1 := cc V1 t1 1 _ rfl
                  have n3 := cc V2 t2 3 _ rfl
                  have n4 := cc V2 t2 4 _ rfl
                  have m0 : V3.cell? ⟨gw, k * 8, none⟩ = some (.int .i64 p.pid) := cc V3 t3 0 _ rfl
                  have m1 := cc V3 t3 1 _ rfl
                  have m2 := cc V3 t3 2 _ rfl
                  have m3 := cc V3 t3 3 _ rfl
                  have m4 := cc V3 t3 4 _ rfl
                  have m5 := cc V3 t3 5 _ rfl
                  have m6 := cc V3 t3 6 _ rfl
                  have m7 := cc V3 t3 7 _ rfl
                  have y0 : V3.cell? ⟨w8.heap.size, 0, none⟩ = some (.int .i64 p.pid) := by rw [hV3]; simp [go_sem]
                  have y1 : V3.cell? ⟨w8.heap.size, 1, none⟩ = some (.int .i64 p.par) := by rw [hV3]; simp [go_sem]
                  have y2 : V3.cell? ⟨w8.heap.size, 2, none⟩ = some (.int .i64 p.st) := by rw [hV3]; simp [go_sem]
                  have y3 : V3.cell? ⟨w8.heap.size, 3, none⟩ = some (.int .i64 p.uid) := by rw [hV3]; simp [go_sem]
                  have y4 : V3.cell? ⟨w8.heap.size, 4, none⟩ = some (.int .i64 p.gid) := by rw [hV3]; simp [go_sem]
                  have y5 : V3.cell? ⟨w8.heap.size, 5, none⟩ = some (.string p.ch) := by rw [hV3]; simp [go_sem]
                  have y6 : V3.cell? ⟨w8.heap.size, 6, none⟩ = some (.int .i64 p.stat) := by rw [hV3]; simp [go_sem]
                  have y7 : V3.cell? ⟨w8.heap.size, 7, none⟩ = some (.bool p.kil) := by rw [hV3]; simp [go_sem]
                  have hs83 : Same (fun _ => False) wr3 V3 := hs8.trans' t3 (fun k e hk => by have := hs8.size; omega)
                  have HS83 := Lib.hid hs83
                  have Y := Lib.hid (And.intro hV1 (And.intro hV2 hV3))
                  have M := Lib.hid (And.intro m0 (And.intro m1 (And.intro m2 (And.intro m3 (And.intro m4 (And.intro m5 (And.intro m6 m7)))))))
                  have YY := Lib.hid (And.intro y0 (And.intro y1 (And.intro y2 (And.intro y3 (And.intro y4 (And.intro y5 (And.intro y6 y7)))))))
                  rw [hV1] at n1
                  rw [hV2] at n3 n4
                  clear m0 m1 m2 m3 m4 m5 m6 m7 y0 y1 y2 y3 y4 y5 y6 y7 cc t1 t2 t3 hs83 hV1 hV2 hV3 hs8 hga f0 f2
                  go_wp2
                  rw [← Y.out.2.2]
                  obtain ⟨m0, m1, m2, m3, m4, m5, m6, m7⟩ := M.out
                  obtain ⟨y0, y1, y2, y3, y4, y5, y6, y7⟩ := YY.out
                  clear n1 n3 n4
                  go_quiet (fail)
                  rename_i nq
                  go_wp2
                  have hsB := HS83.out.drewN nq
                  have HSB := Lib.hid hsB
                  clear hsB
                  go_round
                  case rel => exact ⟨k + 1, _, rfl, by omega, by go_num, HTK.out.same0 HSB.out, ownsRow_same HWK.out HSB.out (fun _ _ h => h), HSK.out.trans (HSB.out.mono (fun _ _ h => h.elim))⟩
                  case measure => simp [intOf]; omega
              · have h3' : (p.st == 3) = false := by simpa using h3
                go_wp2
                go_round
                case rel => exact ⟨k + 1, _, rfl, by omega, by go_num, HTK.out, HWK.out, HSK.out⟩
                case measure => simp [intOf]; omega
            · obtain rfl : k = n' + 1 := by omega
              have HTK := Lib.hid hTk
              have HSK := Lib.hid hsk
              clear hTk hwk hsk
              go_wp2
              go_round
              case rel => exact ⟨i + 1, L', _, by omega, by omega, by go_num, ⟨HTK.out, HE.out.2.2.2.2⟩, HE.out.2.1, HSK.out⟩
              case measure => simp [intOf]; omega
    · by_cases hil : i < len
      · have hlt : (i : Int) < len := by omega
        have hlt2 : decide ((i : Int) < 150) = false := by simp; omega
        clear hTi hLb
        go_wp2
        go_ret
        exact ⟨rfl, hsi.mono (fun k hk h => by omega)⟩
      · have hlt : decide ((i : Int) < len) = false := by simp; omega
        clear hTi hLb
        go_wp2
        go_ret
        exact ⟨rfl, hsi.mono (fun k hk h => by omega)⟩
end Go.Proofs.Ytaeabeofpkfadaa
