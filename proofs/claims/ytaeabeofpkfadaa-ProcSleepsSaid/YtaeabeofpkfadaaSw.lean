/- The walk of ProcSleeps. Conditions: the arguments' form. -/
import Derived.Test.YtaeabeofpkfadaaZw
namespace Go.Proofs.Ytaeabeofpkfadaa
open Go.RowKit Go.Shelf
attribute [local go_sem] Oper.semAt_some

/-- Behind a wake: nobody is left to be woken. -/
theorem wk_lget {L : List Pr} {last : Int} (h : Inv L last) (c : ByteArray) {p : Pr} (hp : p ∈ L) : lget (L.map (wk c)) p.pid = some (wk c p) := by
  rw [lget_map _ (fun q => (wk_id c q).1), h.get hp]; rfl
theorem own_row_any {w : World} {base : Nat} {e : TypeId} {size : Nat} {v : Value} {n : Nat} {xs : List Value} (h : w.ownsRow base e size v n xs) : ∃ ao cap, v = .slice ao n cap ∧ (0 < n → ∃ g, ao = some ⟨g, 0, none⟩) := by
  rcases h.2 with ⟨rfl, h0⟩ | ⟨g, cap, cur, rfl, _⟩
  · subst h0; exact ⟨none, 0, rfl, fun h => by omega⟩
  · exact ⟨_, cap, rfl, fun _ => ⟨g, rfl⟩⟩
theorem Inv.wake {L : List Pr} {last : Int} (h : Inv L last) (c : ByteArray) : Inv (L.map (wk c)) last := by
  refine h.mapped _ (fun q _ => (wk_id _ q).1) (fun q _ => ?_) (fun q _ => ?_)
  · unfold wk up; split <;> rfl
  · unfold wk up
    split
    · intro e; exact absurd e (by show (1 : Int) ≠ 3; decide)
    · exact id
set_option maxHeartbeats 6400000 in
set_option maxRecDepth 16384 in
theorem sleeps_walk (w : World) (a : Option Addr) (len cap : Nat) (g : Nat → Do) (ch : ByteArray) (hlen : len ≤ 9223372036854775807) (ha : ActsAt w a len g) :
    Calls Try.prog 9 #[.slice a len cap, .string ch] w fun e w' => e = .returned (.bool true) ∧ Same (fun _ => False) w w' := by
  have HA := Lib.hid ha
  obtain ⟨c, hc⟩ : ∃ c, c = txt ch := ⟨_, rfl⟩
  have htx := fun W => text_any W ch
  simp only [← hc] at htx
  clear ha hc
  go_enter Try.func9, Try.ntmps9
  go_wp2_with fail
  refine (shown_any _).mono ?_
  rintro e w1 ⟨rfl, hs1⟩
  go_wp2_with fail
  refine (new_any _).mono ?_
  rintro e w2 ⟨t, m, b, rfl, hT, ht, hm, hb, hs2⟩
  have hsz1 := hs1.size
  have hsw : Same (fun k => w.heap.size ≤ k) w w2 := (hs1.trans hs2).mono (fun _ _ h => h.elim)
  have HT := Lib.hid (new_one hT (show w.heap.size ≤ b by omega))
  have ht0 : w.heap.size ≤ t := by omega
  have hm0 : w.heap.size ≤ m := by omega
  clear hT hs1 hs2 ht hm hb hsz1
  go_wp2
  go_loopw [7] (fun v7 wr => ∃ (i : Nat) (L : List Pr) (last : Int), i ≤ len ∧ i ≤ 80 ∧ v7 = .int .i64 i ∧ TabI wr t m L last ∧ (∀ p ∈ L, w.heap.size ≤ p.b) ∧ Same (fun k => w.heap.size ≤ k) w wr) (fun v7 _ => len - (intOf v7).toNat)
  case atStart => exact ⟨0, [one b], 1, by omega, by omega, rfl, HT.out.1, HT.out.2, hsw⟩
  case round =>
    obtain ⟨i, L, last, hi1, hi2, rfl, hTi, hLb, hsi⟩ := hrel
    by_cases hik : i < len ∧ i < 80
    · obtain ⟨hlt, hlt80⟩ := hik
      have hil : (i : Int) < len := by omega
      have hi80 : (i : Int) < 80 := by omega
      obtain ⟨x, hax, hact⟩ := HA.out i hlt
      subst hax
      obtain ⟨a0, a1, a2, a3, a4, a5⟩ := hact.same hsi (fun b hb h => by omega)
      have HLB := Lib.hid hLb
      have HSI := Lib.hid hsi
      have HI := Lib.hid hTi.inv
      have HD := Lib.hid (done_any hTi (g i).d (g i).pid (g i).stat (g i).uid (g i).gid (g i).ch)
      have hszi := hsi.size
      clear hact hTi hLb hsi hsw
      go_wp2_with fail
      refine HD.out.mono ?_
      rintro e w7 ⟨b', rfl, hb', hT7, hs7⟩
      have HT7 := Lib.hid hT7
      have HS7 := Lib.hid hs7
      clear hT7 hs7 a0 a1 a2 a3 a4 a5
      go_wp2
      go_round
      case rel => exact ⟨i + 1, _, _, by omega, by omega, by go_num, ⟨HT7.out, HI.out.act _ _⟩, act_fresh HLB.out (by omega), HSI.out.trans (HS7.out.mono (fun k _ e => own_new ht0 hm0 HLB.out e))⟩
      case measure => simp [intOf]; omega
    · have hln : L.length = (L.length - 1) + 1 := by have := List.length_pos_iff.2 hTi.ne; omega
      obtain ⟨n', hn'⟩ : ∃ n', L.length = n' + 1 := ⟨_, hln⟩
      have hn16 := hTi.inv.len
      have HI := Lib.hid hTi.inv
      have HLB := Lib.hid hLb
      have HSI := Lib.hid hsi
      have HP := Lib.hid (pids_any hTi.tab hTi.inv.bd)
      have HTI := Lib.hid hTi
      clear hTi hLb hln hsw hsi
      rcases (by omega : ¬ i < len ∨ (i < len ∧ ¬ i < 80)) with hc1 | ⟨hc1, hc2⟩
      · have k1 : decide ((i : Int) < len) = false := by simp; omega
        clear hik
        go_wp2_with fail
        refine HP.out.mono ?_
        rintro e w4 ⟨v, rfl, hrow, -, hs4⟩
        rw [hn'] at hrow
        obtain ⟨gb, cap', rfl⟩ := own_row_succ hrow
        have hs4' := HSI.out.trans (hs4.mono (T := fun k => w.heap.size ≤ k) (fun _ _ h => h.elim))
        have HT4 := Lib.hid (HTI.out.tab.same0 hs4)
        have HROW := Lib.hid hrow
        have HS4 := Lib.hid hs4'
        have hgb := (hrow.lt gb rfl)
        have hsz3 := hs4'.size
        clear hrow hs4 hs4'
        go_wp2
        go_loopw [9, 10] (fun v9 v10 wx => ∃ (k : Nat) (vv : Value) (wr2 : World), vv = v9 ∧ wr2 = wx ∧ k ≤ n' + 1 ∧ v10 = .int .i64 k ∧ TabAt wr2 t m L last ∧ wr2.ownsRow wr.heap.size 3 1 (.slice (some ⟨gb, 0, none⟩) (n' + 1) cap') (n' + 1) (pidv L) ∧ wr2.ownsRow w4.heap.size 34 8 vv k (flat (L.take k)) ∧ Same (fun k => w.heap.size ≤ k) w wr2 ∧ w4.heap.size ≤ wr2.heap.size) (fun _ v10 _ => n' + 1 - (intOf v10).toNat)
        case atStart => exact ⟨0, _, _, rfl, rfl, by omega, rfl, HT4.out, HROW.out, World.ownsRow_nil _ _ _ _, HS4.out, Nat.le_refl _⟩
        case round =>
          obtain ⟨k, v7, wr2, hvv, hww, hk, rfl, hTk, hrk, hwk, hsk, hzk⟩ := hrel
          subst hvv
          subst hww
          by_cases hkk : k < n' + 1
          · have hki : (k : Int) < n' + 1 := by omega
            obtain ⟨p, hp⟩ : ∃ p, L[k]? = some p := ⟨_, List.getElem?_eq_getElem (by omega)⟩
            have hpm := List.mem_of_getElem? hp
            have c0 := hrk.cells (g := gb) rfl k (.int .i64 p.pid) (by unfold pidv; rw [List.getElem?_map, hp]; rfl)
            rw [show (⟨gb, 0, none⟩ : Addr).add k = ⟨gb, k, none⟩ by simp [Addr.add]; intro h; exact h.symm] at c0
            have hga := get_any hTk p.pid
            rw [HI.out.get hpm] at hga
            simp only [getv, fe, Pr.agg] at hga
            have HTK := Lib.hid hTk
            have HRK := Lib.hid hrk
            have HWK := Lib.hid hwk
            have HSK := Lib.hid hsk
            have hfs := flat_succ hp
            have HFS := Lib.hid hfs
            clear hTk hrk hwk hsk hpm hp hfs
            go_wp2_with fail
            refine hga.mono ?_
            rintro e w5 ⟨rfl, hs5⟩
            have HS5 := Lib.hid hs5
            clear hga c0 hs5
            obtain ⟨i0, hi0, hq0, hq1, hq2⟩ := info_parts Try.info34
            have hsA : Same (fun _ => False) w5 ((w5.alloc (.cells #[.int .i64 p.pid, .int .i64 p.par, .int .i64 p.st, .int .i64 p.uid, .int .i64 p.gid, .string p.ch, .int .i64 p.stat, .bool p.kil] 34)).alloc (.cells #[.int .i64 p.pid, .int .i64 p.par, .int .i64 p.st, .int .i64 p.uid, .int .i64 p.gid, .string p.ch, .int .i64 p.stat, .bool p.kil] 34)) := (same_alloc _).alloc _
            have hown5 := ownsRow_same (ownsRow_same HWK.out HS5.out (fun _ _ h => h)) hsA (fun _ _ h => h)
            have hc1 : ∀ j u, p.vals[j]? = some u → ((w5.alloc (.cells #[.int .i64 p.pid, .int .i64 p.par, .int .i64 p.st, .int .i64 p.uid, .int .i64 p.gid, .string p.ch, .int .i64 p.stat, .bool p.kil] 34)).alloc (.cells #[.int .i64 p.pid, .int .i64 p.par, .int .i64 p.st, .int .i64 p.uid, .int .i64 p.gid, .string p.ch, .int .i64 p.stat, .bool p.kil] 34)).cell? ((⟨w5.heap.size + 1, 0, none⟩ : Addr).add j) = some u := fun j u hu => cells_new (by simp) hu
            have hc2 : ∀ u ∈ p.vals, u.oneCell' = true := by simp [Pr.vals, Value.oneCell']
            have hc3 : k + 1 ≤ maxLen := by unfold maxLen; omega
            have hc4 : (k + 1) * 72 ≤ 140737488355328 := by omega
            have hc5 := Nat.le_trans (Nat.le_trans hzk HS5.out.size) hsA.size
            have HK := Lib.hid (And.intro hsA (And.intro hown5 (And.intro hc1 (And.intro hc2 (And.intro hc3 (And.intro hc4 hc5))))))
            clear hsA hown5 hc1 hc2 hc3 hc4 hc5
            go_wp2_with (refine wpList_append_same rfl _ _ 48 rfl w4.heap.size 34 i0 Pr.zero 8 72 Try.underlying48 hi0 hq0 hq1 hq2 rfl (by decide) _ _ _ rfl HK.out.2.1 ⟨w5.heap.size + 1, 0, none⟩ 1 1 p.vals rfl rfl HK.out.2.2.1 HK.out.2.2.2.1 HK.out.2.2.2.2.1 HK.out.2.2.2.2.2.1 HK.out.2.2.2.2.2.2 ?_; intro v' w6 hown6 hsame6 hblk6)
            have hlt4 := HT4.out.lt
            have hvb : ∀ b, b < w4.heap.size → ¬ v7.ownBlock = some b := fun b hb h => by have := (ownsRow_shape HWK.out h).1; omega
            have hs56 := HS5.out.trans HK.out.1
            have hT6 := (HTK.out.same0 hs56).same hsame6 (fun b hb => hvb b (by
              rcases hb with hb | hb | ⟨q, hq, hb⟩
              · omega
              · omega
              · have := hlt4.2.2 q hq; omega))
            have hr6 := ownsRow_same (ownsRow_same HRK.out hs56 (fun _ _ h => h)) hsame6 (fun gx hgx => by
              have hgx2 : gb = gx := by simpa [Value.ownBlock] using hgx
              exact hvb gx (by have := hgb.2; omega))
            have hs6 := (HSK.out.trans (hs56.mono (T := fun k => w.heap.size ≤ k) (fun _ _ h => h.elim))).trans (hsame6.mono (fun kk _ h => by
              have := (ownsRow_shape HWK.out h).1
              omega))
            have hz6 : w4.heap.size ≤ w6.heap.size := by have := hs56.size; have := hsame6.size; omega
            go_round
            case rel => exact ⟨k + 1, _, _, rfl, rfl, by omega, by go_num, hT6, hr6, by rw [HFS.out]; exact hown6, hs6, hz6⟩
            case measure => simp [intOf]; omega
          · obtain rfl : k = n' + 1 := by omega
            have hfull : L.take (n' + 1) = L := by rw [← hn', List.take_length]
            rw [hfull] at hwk
            obtain ⟨gw, capw, rfl⟩ := own_row_succ hwk
            have HWA := Lib.hid (wake_any hTk HI.out.bd (by intro h; rw [h] at hn'; simp at hn') c)
            have HWK := Lib.hid hwk
            have HSK := Lib.hid hsk
            have hlt4 := HT4.out.lt
            have hgw := (ownsRow_shape hwk rfl)
            clear hTk hrk hwk hsk
            go_wp2_with fail
            refine (htx _).mono ?_
            rintro e w5 ⟨rfl, rfl⟩
            go_wp2_with fail
            refine HWA.out.mono ?_
            rintro e w6 ⟨vw, rfl, hw6, hT6, hs6⟩
            have hs6' := HSK.out.trans (hs6.mono (T := fun k => w.heap.size ≤ k) (fun k _ e => own_new ht0 hm0 HLB.out e))
            have hwas6 := ownsRow_same HWK.out hs6 (fun gx hgx hh => by
              have hgx2 := (ownsRow_shape HWK.out hgx).1
              rcases hh with hh | hh | ⟨q, hq, hh⟩
              · omega
              · omega
              · have := hlt4.2.2 q hq; omega)
            obtain ⟨ao, cw, rfl, hao⟩ := own_row_any hw6
            obtain ⟨NW, hNW⟩ : ∃ NW, NW = (woken L c).length := ⟨_, rfl⟩
            have hNW16 : NW ≤ 16 := by have := woken_le L c; omega
            rw [← hNW] at hw6 hao ⊢
            have HE := Lib.hid (And.intro hT6 (And.intro hs6' (And.intro hwas6 hw6)))
            have HNW := Lib.hid hNW
            have HAO := Lib.hid hao
            clear hT6 hs6 hs6' hwas6 hw6 hNW hao
            go_wp2
            go_loopw [14, 15] (fun v14 v15 wx => ∃ (k nn : Nat) (wr3 : World), wr3 = wx ∧ k ≤ n' + 1 ∧ v15 = .int .i64 k ∧ v14 = .int .i64 nn ∧ nn = (woken (L.take k) c).length ∧ TabAt wr3 t m (L.map (wk c)) last ∧ wr3.ownsRow w4.heap.size 34 8 (.slice (some ⟨gw, 0, none⟩) (n' + 1) capw) (n' + 1) (flat L) ∧ wr3.ownsRow w5.heap.size 3 1 (.slice ao NW cw) NW (wv L c) ∧ Same (fun k => w.heap.size ≤ k) w wr3) (fun _ v15 _ => n' + 1 - (intOf v15).toNat)
            case atStart => exact ⟨0, 0, _, rfl, by omega, rfl, rfl, rfl, HE.out.1, HE.out.2.2.1, HE.out.2.2.2, HE.out.2.1⟩
            case round =>
              obtain ⟨k, nn, wr3, hww, hk, rfl, rfl, hnn, hTk, hwk, hok, hsk⟩ := hrel
              subst hww
              by_cases hkk : k < n' + 1
              · have hki : (k : Int) < n' + 1 := by omega
                obtain ⟨p, hp⟩ : ∃ p, L[k]? = some p := ⟨_, List.getElem?_eq_getElem (by omega)⟩
                have hpm := List.mem_of_getElem? hp
                have hcell : ∀ j v, p.vals[j]? = some v → wr3.cell? ⟨gw, k * 8 + j, none⟩ = some v := fun j v hv => by
                  have := hwk.cells (g := gw) rfl (k * 8 + j) v (flat_at hp hv)
                  rwa [show (⟨gw, 0, none⟩ : Addr).add (k * 8 + j) = ⟨gw, k * 8 + j, none⟩ by simp [Addr.add]; omega] at this
                have f0 : wr3.cell? ⟨gw, k * 8, none⟩ = some (.int .i64 p.pid) := hcell 0 _ rfl
                have hgw3 := World.block_lt_of_cell? _ _ f0
                have hga := get_any hTk p.pid
                rw [wk_lget HI.out c hpm] at hga
                have hsucc := woken_succ c hp
                have hno := woken_no (c := c) hp
                have HTK := Lib.hid hTk
                have HWK := Lib.hid hwk
                have HOK := Lib.hid hok
                have HSK := Lib.hid hsk
                have HC := Lib.hid hcell
                have HWL := Lib.hid (fun hw => woken_lt c hp hw)
                have HWT := Lib.hid (fun hw => woken_at c hp hw)
                have HSUCC := Lib.hid hsucc
                have HNN := Lib.hid hnn
                have HNO := Lib.hid hno
                clear hTk hwk hok hsk hp hcell hpm hsucc hnn hno
                by_cases hw : isW c p = true
                · have hwk : wk c p = up p := by unfold wk; rw [hw]; rfl
                  have hst : p.st = 2 ∧ p.ch = c := by simpa [isW] using hw
                  rw [hwk] at hga
                  simp only [getv, fe, Pr.agg, up] at hga
                  have hlt : nn < NW := by rw [HNN.out, HNW.out]; exact HWL.out hw
                  have hlti : (nn : Int) < NW := by omega
                  have hge : decide ((NW : Int) ≤ (nn : Int)) = false := by simp; omega
                  obtain ⟨gx, rfl⟩ := HAO.out (by omega)
                  have hcw : wr3.cell? ⟨gx, nn, none⟩ = some (.int .i64 p.pid) := by
                    have h1 := HWT.out hw
                    rw [← HNN.out] at h1
                    have := HOK.out.cells (g := gx) rfl nn (.int .i64 p.pid) (by unfold wv; rw [List.getElem?_map, h1]; rfl)
                    rwa [show (⟨gx, 0, none⟩ : Addr).add nn = ⟨gx, nn, none⟩ by simp [Addr.add]; intro h; exact h.symm] at this
                  have hgx3 := World.block_lt_of_cell? _ _ hcw
                  clear hwk
                  go_wp2_with fail
                  refine hga.mono ?_
                  rintro e w8 ⟨rfl, hs8⟩
                  obtain ⟨V, hV⟩ : ∃ V, V = w8.alloc (.cells #[.int .i64 p.pid, .int .i64 p.par, .int .i64 1, .int .i64 p.uid, .int .i64 p.gid, .string ⟨#[]⟩, .int .i64 p.stat, .bool p.kil] 34) := ⟨_, rfl⟩
                  have hs8V : Same (fun _ => False) wr3 V := by rw [hV]; exact hs8.alloc _
                  have q2 : V.cell? ⟨gw, k * 8 + 2, none⟩ = some (.int .i64 2) := by rw [← hst.1]; exact hs8V.cell (HC.out 2 _ rfl) (fun h => h)
                  have q4 : V.cell? ⟨gw, k * 8 + 5, none⟩ = some (.string c) := by rw [← hst.2]; exact hs8V.cell (HC.out 5 _ rfl) (fun h => h)
                  have qw := hs8V.cell hcw (fun h => h)
                  have y0 : V.cell? ⟨w8.heap.size, 0, none⟩ = some (.int .i64 p.pid) := by rw [hV]; simp [go_sem]
                  have y2 : V.cell? ⟨w8.heap.size, 2, none⟩ = some (.int .i64 1) := by rw [hV]; simp [go_sem]
                  have y5 : V.cell? ⟨w8.heap.size, 5, none⟩ = some (.string ⟨#[]⟩) := by rw [hV]; simp [go_sem]
                  have HV := Lib.hid hV
                  have HS8V := Lib.hid hs8V
                  clear hga hs8 hs8V hV f0 hcw hst
                  go_wp2
                  rw [← HV.out]
                  go_quiet ((go_at_call 24; refine Calls.quiet_of_same (htx _)))
                  go_wp2
                  go_quiet (fail)
                  go_wp2
                  have hsu := HSUCC.out
                  rw [if_pos hw] at hsu
                  go_round
                  case rel => exact ⟨k + 1, nn + 1, _, rfl, by omega, by go_num, by go_num, by rw [hsu, HNN.out], HTK.out.same0 (HS8V.out.drewN _), ownsRow_same HWK.out (HS8V.out.drewN _) (fun _ _ h => h), ownsRow_same HOK.out (HS8V.out.drewN _) (fun _ _ h => h), HSK.out.trans ((HS8V.out.drewN _).mono (fun _ _ h => h.elim))⟩
                  case measure => simp [intOf]; omega
                · have hw' : isW c p = false := by simpa using hw
                  have hwk : wk c p = p := by unfold wk; rw [hw']; rfl
                  rw [hwk] at hga
                  simp only [getv, fe, Pr.agg] at hga
                  clear hwk
                  by_cases h2 : p.st = 2
                  · have hch : (p.ch == c) = false := beq_ne (fun h => hw (by simp [isW, h2, h]))
                    have hch2 : (p.ch.toList == c.toList) = false := by rw [← beq_toListBytes]; exact hch
                    go_wp2_with fail
                    refine hga.mono ?_
                    rintro e w8 ⟨rfl, hs8⟩
                    obtain ⟨V, hV⟩ : ∃ V, V = w8.alloc (.cells #[.int .i64 p.pid, .int .i64 p.par, .int .i64 p.st, .int .i64 p.uid, .int .i64 p.gid, .string p.ch, .int .i64 p.stat, .bool p.kil] 34) := ⟨_, rfl⟩
                    have hs8V : Same (fun _ => False) wr3 V := by rw [hV]; exact hs8.alloc _
                    have q2 : V.cell? ⟨gw, k * 8 + 2, none⟩ = some (.int .i64 2) := by rw [← h2]; exact hs8V.cell (HC.out 2 _ rfl) (fun h => h)
                    have q5 : V.cell? ⟨gw, k * 8 + 5, none⟩ = some (.string p.ch) := hs8V.cell (HC.out 5 _ rfl) (fun h => h)
                    clear h2
                    have m0 : V.cell? ⟨gw, k * 8, none⟩ = some (.int .i64 p.pid) := hs8V.cell (HC.out 0 _ rfl) (fun h => h)
                    have m1 := hs8V.cell (HC.out 1 _ rfl) (fun h => h)
                    have m2 := hs8V.cell (HC.out 2 _ rfl) (fun h => h)
                    have m3 := hs8V.cell (HC.out 3 _ rfl) (fun h => h)
                    have m4 := hs8V.cell (HC.out 4 _ rfl) (fun h => h)
                    have m5 := hs8V.cell (HC.out 5 _ rfl) (fun h => h)
                    have m6 := hs8V.cell (HC.out 6 _ rfl) (fun h => h)
                    have m7 := hs8V.cell (HC.out 7 _ rfl) (fun h => h)
                    have y0 : V.cell? ⟨w8.heap.size, 0, none⟩ = some (.int .i64 p.pid) := by rw [hV]; simp [go_sem]
                    have y1 : V.cell? ⟨w8.heap.size, 1, none⟩ = some (.int .i64 p.par) := by rw [hV]; simp [go_sem]
                    have y2 : V.cell? ⟨w8.heap.size, 2, none⟩ = some (.int .i64 p.st) := by rw [hV]; simp [go_sem]
                    have y3 : V.cell? ⟨w8.heap.size, 3, none⟩ = some (.int .i64 p.uid) := by rw [hV]; simp [go_sem]
                    have y4 : V.cell? ⟨w8.heap.size, 4, none⟩ = some (.int .i64 p.gid) := by rw [hV]; simp [go_sem]
                    have y5 : V.cell? ⟨w8.heap.size, 5, none⟩ = some (.string p.ch) := by rw [hV]; simp [go_sem]
                    have y6 : V.cell? ⟨w8.heap.size, 6, none⟩ = some (.int .i64 p.stat) := by rw [hV]; simp [go_sem]
                    have y7 : V.cell? ⟨w8.heap.size, 7, none⟩ = some (.bool p.kil) := by rw [hV]; simp [go_sem]
                    have Y := Lib.hid (And.intro m0 (And.intro m1 (And.intro m2 (And.intro m3 (And.intro m4 (And.intro m5 (And.intro m6 (And.intro m7 (And.intro y0 (And.intro y1 (And.intro y2 (And.intro y3 (And.intro y4 (And.intro y5 (And.intro y6 y7)))))))))))))))
                    have HV := Lib.hid hV
                    have HS8V := Lib.hid hs8V
                    clear hga hs8 hs8V hV m0 m1 m2 m3 m4 m5 m6 m7 y0 y1 y2 y3 y4 y5 y6 y7
                    go_wp2
                    rw [← HV.out]
                    go_quiet ((go_at_call 24; refine Calls.quiet_of_same (htx _)))
                    go_wp2
                    clear q2 q5
                    obtain ⟨m0, m1, m2, m3, m4, m5, m6, m7, y0, y1, y2, y3, y4, y5, y6, y7⟩ := Y.out
                    go_quiet (fail)
                    go_wp2
                    have hsu := HNO.out hw'
                    go_round
                    case rel => exact ⟨k + 1, nn, _, rfl, by omega, by go_num, rfl, by rw [hsu]; exact HNN.out, HTK.out.same0 (HS8V.out.drewN _), ownsRow_same HWK.out (HS8V.out.drewN _) (fun _ _ h => h), ownsRow_same HOK.out (HS8V.out.drewN _) (fun _ _ h => h), HSK.out.trans ((HS8V.out.drewN _).mono (fun _ _ h => h.elim))⟩
                    case measure => simp [intOf]; omega
                  · have h2' : (p.st == 2) = false := by simpa using h2
                    go_wp2_with fail
                    refine hga.mono ?_
                    rintro e w8 ⟨rfl, hs8⟩
                    obtain ⟨V, hV⟩ : ∃ V, V = w8.alloc (.cells #[.int .i64 p.pid, .int .i64 p.par, .int .i64 p.st, .int .i64 p.uid, .int .i64 p.gid, .string p.ch, .int .i64 p.stat, .bool p.kil] 34) := ⟨_, rfl⟩
                    have hs8V : Same (fun _ => False) wr3 V := by rw [hV]; exact hs8.alloc _
                    have q2 : V.cell? ⟨gw, k * 8 + 2, none⟩ = some (.int .i64 p.st) := hs8V.cell (HC.out 2 _ rfl) (fun h => h)
                    have m0 : V.cell? ⟨gw, k * 8, none⟩ = some (.int .i64 p.pid) := hs8V.cell (HC.out 0 _ rfl) (fun h => h)
                    have m1 := hs8V.cell (HC.out 1 _ rfl) (fun h => h)
                    have m2 := hs8V.cell (HC.out 2 _ rfl) (fun h => h)
                    have m3 := hs8V.cell (HC.out 3 _ rfl) (fun h => h)
                    have m4 := hs8V.cell (HC.out 4 _ rfl) (fun h => h)
                    have m5 := hs8V.cell (HC.out 5 _ rfl) (fun h => h)
                    have m6 := hs8V.cell (HC.out 6 _ rfl) (fun h => h)
                    have m7 := hs8V.cell (HC.out 7 _ rfl) (fun h => h)
                    have y0 : V.cell? ⟨w8.heap.size, 0, none⟩ = some (.int .i64 p.pid) := by rw [hV]; simp [go_sem]
                    have y1 : V.cell? ⟨w8.heap.size, 1, none⟩ = some (.int .i64 p.par) := by rw [hV]; simp [go_sem]
                    have y2 : V.cell? ⟨w8.heap.size, 2, none⟩ = some (.int .i64 p.st) := by rw [hV]; simp [go_sem]
                    have y3 : V.cell? ⟨w8.heap.size, 3, none⟩ = some (.int .i64 p.uid) := by rw [hV]; simp [go_sem]
                    have y4 : V.cell? ⟨w8.heap.size, 4, none⟩ = some (.int .i64 p.gid) := by rw [hV]; simp [go_sem]
                    have y5 : V.cell? ⟨w8.heap.size, 5, none⟩ = some (.string p.ch) := by rw [hV]; simp [go_sem]
                    have y6 : V.cell? ⟨w8.heap.size, 6, none⟩ = some (.int .i64 p.stat) := by rw [hV]; simp [go_sem]
                    have y7 : V.cell? ⟨w8.heap.size, 7, none⟩ = some (.bool p.kil) := by rw [hV]; simp [go_sem]
                    have Y := Lib.hid (And.intro m0 (And.intro m1 (And.intro m2 (And.intro m3 (And.intro m4 (And.intro m5 (And.intro m6 (And.intro m7 (And.intro y0 (And.intro y1 (And.intro y2 (And.intro y3 (And.intro y4 (And.intro y5 (And.intro y6 y7)))))))))))))))
                    have HV := Lib.hid hV
                    have HS8V := Lib.hid hs8V
                    clear hga hs8 hs8V hV m0 m1 m2 m3 m4 m5 m6 m7 y0 y1 y2 y3 y4 y5 y6 y7
                    go_wp2
                    rw [← HV.out]
                    go_quiet ((go_at_call 24; refine Calls.quiet_of_same (htx _)))
                    go_wp2
                    clear q2
                    obtain ⟨m0, m1, m2, m3, m4, m5, m6, m7, y0, y1, y2, y3, y4, y5, y6, y7⟩ := Y.out
                    go_quiet (fail)
                    go_wp2
                    have hsu := HNO.out hw'
                    go_round
                    case rel => exact ⟨k + 1, nn, _, rfl, by omega, by go_num, rfl, by rw [hsu]; exact HNN.out, HTK.out.same0 (HS8V.out.drewN _), ownsRow_same HWK.out (HS8V.out.drewN _) (fun _ _ h => h), ownsRow_same HOK.out (HS8V.out.drewN _) (fun _ _ h => h), HSK.out.trans ((HS8V.out.drewN _).mono (fun _ _ h => h.elim))⟩
                    case measure => simp [intOf]; omega
              · obtain rfl : k = n' + 1 := by omega
                have hfull : L.take (n' + 1) = L := by rw [← hn', List.take_length]
                have hnW : nn = NW := by rw [hnn, HNW.out, hfull]
                subst hnW
                have hTI3 : TabI wr3 t m (L.map (wk c)) last := ⟨hTk, HI.out.wake c⟩
                have HWB := Lib.hid (wake_any hTk hTI3.inv.bd hTI3.ne c)
                have HSK := Lib.hid hsk
                have HLB2 := Lib.hid (fun q (hq : q ∈ L.map (wk c)) => show w.heap.size ≤ q.b by
                  obtain ⟨y, hy, rfl⟩ := List.mem_map.1 hq
                  rw [(wk_id c y).2]; exact HLB.out y hy)
                clear hTk hwk hok hsk hTI3 hnn
                go_wp2_with fail
                refine (htx _).mono ?_
                rintro e w9 ⟨rfl, rfl⟩
                go_wp2_with fail
                refine HWB.out.mono ?_
                rintro e w10 ⟨vz, rfl, hvz, -, hs10⟩
                rw [woken_gone] at hvz
                obtain ⟨az, cz, rfl, -⟩ := own_row_any hvz
                have HS10 := Lib.hid (HSK.out.trans (hs10.mono (T := fun k => w.heap.size ≤ k) (fun k _ e => own_new ht0 hm0 HLB2.out e)))
                clear hvz hs10
                go_wp2
                go_ret
                exact ⟨rfl, HS10.out.mono (fun k hk h => by omega)⟩
      · have k1 : (i : Int) < len := by omega
        have k2 : decide ((i : Int) < 80) = false := by simp; omega
        clear hik
        go_wp2_with fail
        refine HP.out.mono ?_
        rintro e w4 ⟨v, rfl, hrow, -, hs4⟩
        rw [hn'] at hrow
        obtain ⟨gb, cap', rfl⟩ := own_row_succ hrow
        have hs4' := HSI.out.trans (hs4.mono (T := fun k => w.heap.size ≤ k) (fun _ _ h => h.elim))
        have HT4 := Lib.hid (HTI.out.tab.same0 hs4)
        have HROW := Lib.hid hrow
        have HS4 := Lib.hid hs4'
        have hgb := (hrow.lt gb rfl)
        have hsz3 := hs4'.size
        clear hrow hs4 hs4'
        go_wp2
        go_loopw [9, 10] (fun v9 v10 wx => ∃ (k : Nat) (vv : Value) (wr2 : World), vv = v9 ∧ wr2 = wx ∧ k ≤ n' + 1 ∧ v10 = .int .i64 k ∧ TabAt wr2 t m L last ∧ wr2.ownsRow wr.heap.size 3 1 (.slice (some ⟨gb, 0, none⟩) (n' + 1) cap') (n' + 1) (pidv L) ∧ wr2.ownsRow w4.heap.size 34 8 vv k (flat (L.take k)) ∧ Same (fun k => w.heap.size ≤ k) w wr2 ∧ w4.heap.size ≤ wr2.heap.size) (fun _ v10 _ => n' + 1 - (intOf v10).toNat)
        case atStart => exact ⟨0, _, _, rfl, rfl, by omega, rfl, HT4.out, HROW.out, World.ownsRow_nil _ _ _ _, HS4.out, Nat.le_refl _⟩
        case round =>
          obtain ⟨k, v7, wr2, hvv, hww, hk, rfl, hTk, hrk, hwk, hsk, hzk⟩ := hrel
          subst hvv
          subst hww
          by_cases hkk : k < n' + 1
          · have hki : (k : Int) < n' + 1 := by omega
            obtain ⟨p, hp⟩ : ∃ p, L[k]? = some p := ⟨_, List.getElem?_eq_getElem (by omega)⟩
            have hpm := List.mem_of_getElem? hp
            have c0 := hrk.cells (g := gb) rfl k (.int .i64 p.pid) (by unfold pidv; rw [List.getElem?_map, hp]; rfl)
            rw [show (⟨gb, 0, none⟩ : Addr).add k = ⟨gb, k, none⟩ by simp [Addr.add]; intro h; exact h.symm] at c0
            have hga := get_any hTk p.pid
            rw [HI.out.get hpm] at hga
            simp only [getv, fe, Pr.agg] at hga
            have HTK := Lib.hid hTk
            have HRK := Lib.hid hrk
            have HWK := Lib.hid hwk
            have HSK := Lib.hid hsk
            have hfs := flat_succ hp
            have HFS := Lib.hid hfs
            clear hTk hrk hwk hsk hpm hp hfs
            go_wp2_with fail
            refine hga.mono ?_
            rintro e w5 ⟨rfl, hs5⟩
            have HS5 := Lib.hid hs5
            clear hga c0 hs5
            obtain ⟨i0, hi0, hq0, hq1, hq2⟩ := info_parts Try.info34
            have hsA : Same (fun _ => False) w5 ((w5.alloc (.cells #[.int .i64 p.pid, .int .i64 p.par, .int .i64 p.st, .int .i64 p.uid, .int .i64 p.gid, .string p.ch, .int .i64 p.stat, .bool p.kil] 34)).alloc (.cells #[.int .i64 p.pid, .int .i64 p.par, .int .i64 p.st, .int .i64 p.uid, .int .i64 p.gid, .string p.ch, .int .i64 p.stat, .bool p.kil] 34)) := (same_alloc _).alloc _
            have hown5 := ownsRow_same (ownsRow_same HWK.out HS5.out (fun _ _ h => h)) hsA (fun _ _ h => h)
            have hc1 : ∀ j u, p.vals[j]? = some u → ((w5.alloc (.cells #[.int .i64 p.pid, .int .i64 p.par, .int .i64 p.st, .int .i64 p.uid, .int .i64 p.gid, .string p.ch, .int .i64 p.stat, .bool p.kil] 34)).alloc (.cells #[.int .i64 p.pid, .int .i64 p.par, .int .i64 p.st, .int .i64 p.uid, .int .i64 p.gid, .string p.ch, .int .i64 p.stat, .bool p.kil] 34)).cell? ((⟨w5.heap.size + 1, 0, none⟩ : Addr).add j) = some u := fun j u hu => cells_new (by simp) hu
            have hc2 : ∀ u ∈ p.vals, u.oneCell' = true := by simp [Pr.vals, Value.oneCell']
            have hc3 : k + 1 ≤ maxLen := by unfold maxLen; omega
            have hc4 : (k + 1) * 72 ≤ 140737488355328 := by omega
            have hc5 := Nat.le_trans (Nat.le_trans hzk HS5.out.size) hsA.size
            have HK := Lib.hid (And.intro hsA (And.intro hown5 (And.intro hc1 (And.intro hc2 (And.intro hc3 (And.intro hc4 hc5))))))
            clear hsA hown5 hc1 hc2 hc3 hc4 hc5
            go_wp2_with (refine wpList_append_same rfl _ _ 48 rfl w4.heap.size 34 i0 Pr.zero 8 72 Try.underlying48 hi0 hq0 hq1 hq2 rfl (by decide) _ _ _ rfl HK.out.2.1 ⟨w5.heap.size + 1, 0, none⟩ 1 1 p.vals rfl rfl HK.out.2.2.1 HK.out.2.2.2.1 HK.out.2.2.2.2.1 HK.out.2.2.2.2.2.1 HK.out.2.2.2.2.2.2 ?_; intro v' w6 hown6 hsame6 hblk6)
            have hlt4 := HT4.out.lt
            have hvb : ∀ b, b < w4.heap.size → ¬ v7.ownBlock = some b := fun b hb h => by have := (ownsRow_shape HWK.out h).1; omega
            have hs56 := HS5.out.trans HK.out.1
            have hT6 := (HTK.out.same0 hs56).same hsame6 (fun b hb => hvb b (by
              rcases hb with hb | hb | ⟨q, hq, hb⟩
              · omega
              · omega
              · have := hlt4.2.2 q hq; omega))
            have hr6 := ownsRow_same (ownsRow_same HRK.out hs56 (fun _ _ h => h)) hsame6 (fun gx hgx => by
              have hgx2 : gb = gx := by simpa [Value.ownBlock] using hgx
              exact hvb gx (by have := hgb.2; omega))
            have hs6 := (HSK.out.trans (hs56.mono (T := fun k => w.heap.size ≤ k) (fun _ _ h => h.elim))).trans (hsame6.mono (fun kk _ h => by
              have := (ownsRow_shape HWK.out h).1
              omega))
            have hz6 : w4.heap.size ≤ w6.heap.size := by have := hs56.size; have := hsame6.size; omega
            go_round
            case rel => exact ⟨k + 1, _, _, rfl, rfl, by omega, by go_num, hT6, hr6, by rw [HFS.out]; exact hown6, hs6, hz6⟩
            case measure => simp [intOf]; omega
          · obtain rfl : k = n' + 1 := by omega
            have hfull : L.take (n' + 1) = L := by rw [← hn', List.take_length]
            rw [hfull] at hwk
            obtain ⟨gw, capw, rfl⟩ := own_row_succ hwk
            have HWA := Lib.hid (wake_any hTk HI.out.bd (by intro h; rw [h] at hn'; simp at hn') c)
            have HWK := Lib.hid hwk
            have HSK := Lib.hid hsk
            have hlt4 := HT4.out.lt
            have hgw := (ownsRow_shape hwk rfl)
            clear hTk hrk hwk hsk
            go_wp2_with fail
            refine (htx _).mono ?_
            rintro e w5 ⟨rfl, rfl⟩
            go_wp2_with fail
            refine HWA.out.mono ?_
            rintro e w6 ⟨vw, rfl, hw6, hT6, hs6⟩
            have hs6' := HSK.out.trans (hs6.mono (T := fun k => w.heap.size ≤ k) (fun k _ e => own_new ht0 hm0 HLB.out e))
            have hwas6 := ownsRow_same HWK.out hs6 (fun gx hgx hh => by
              have hgx2 := (ownsRow_shape HWK.out hgx).1
              rcases hh with hh | hh | ⟨q, hq, hh⟩
              · omega
              · omega
              · have := hlt4.2.2 q hq; omega)
            obtain ⟨ao, cw, rfl, hao⟩ := own_row_any hw6
            obtain ⟨NW, hNW⟩ : ∃ NW, NW = (woken L c).length := ⟨_, rfl⟩
            have hNW16 : NW ≤ 16 := by have := woken_le L c; omega
            rw [← hNW] at hw6 hao ⊢
            have HE := Lib.hid (And.intro hT6 (And.intro hs6' (And.intro hwas6 hw6)))
            have HNW := Lib.hid hNW
            have HAO := Lib.hid hao
            clear hT6 hs6 hs6' hwas6 hw6 hNW hao
            go_wp2
            go_loopw [14, 15] (fun v14 v15 wx => ∃ (k nn : Nat) (wr3 : World), wr3 = wx ∧ k ≤ n' + 1 ∧ v15 = .int .i64 k ∧ v14 = .int .i64 nn ∧ nn = (woken (L.take k) c).length ∧ TabAt wr3 t m (L.map (wk c)) last ∧ wr3.ownsRow w4.heap.size 34 8 (.slice (some ⟨gw, 0, none⟩) (n' + 1) capw) (n' + 1) (flat L) ∧ wr3.ownsRow w5.heap.size 3 1 (.slice ao NW cw) NW (wv L c) ∧ Same (fun k => w.heap.size ≤ k) w wr3) (fun _ v15 _ => n' + 1 - (intOf v15).toNat)
            case atStart => exact ⟨0, 0, _, rfl, by omega, rfl, rfl, rfl, HE.out.1, HE.out.2.2.1, HE.out.2.2.2, HE.out.2.1⟩
            case round =>
              obtain ⟨k, nn, wr3, hww, hk, rfl, rfl, hnn, hTk, hwk, hok, hsk⟩ := hrel
              subst hww
              by_cases hkk : k < n' + 1
              · have hki : (k : Int) < n' + 1 := by omega
                obtain ⟨p, hp⟩ : ∃ p, L[k]? = some p := ⟨_, List.getElem?_eq_getElem (by omega)⟩
                have hpm := List.mem_of_getElem? hp
                have hcell : ∀ j v, p.vals[j]? = some v → wr3.cell? ⟨gw, k * 8 + j, none⟩ = some v := fun j v hv => by
                  have := hwk.cells (g := gw) rfl (k * 8 + j) v (flat_at hp hv)
                  rwa [show (⟨gw, 0, none⟩ : Addr).add (k * 8 + j) = ⟨gw, k * 8 + j, none⟩ by simp [Addr.add]; omega] at this
                have f0 : wr3.cell? ⟨gw, k * 8, none⟩ = some (.int .i64 p.pid) := hcell 0 _ rfl
                have hgw3 := World.block_lt_of_cell? _ _ f0
                have hga := get_any hTk p.pid
                rw [wk_lget HI.out c hpm] at hga
                have hsucc := woken_succ c hp
                have hno := woken_no (c := c) hp
                have HTK := Lib.hid hTk
                have HWK := Lib.hid hwk
                have HOK := Lib.hid hok
                have HSK := Lib.hid hsk
                have HC := Lib.hid hcell
                have HWL := Lib.hid (fun hw => woken_lt c hp hw)
                have HWT := Lib.hid (fun hw => woken_at c hp hw)
                have HSUCC := Lib.hid hsucc
                have HNN := Lib.hid hnn
                have HNO := Lib.hid hno
                clear hTk hwk hok hsk hp hcell hpm hsucc hnn hno
                by_cases hw : isW c p = true
                · have hwk : wk c p = up p := by unfold wk; rw [hw]; rfl
                  have hst : p.st = 2 ∧ p.ch = c := by simpa [isW] using hw
                  rw [hwk] at hga
                  simp only [getv, fe, Pr.agg, up] at hga
                  have hlt : nn < NW := by rw [HNN.out, HNW.out]; exact HWL.out hw
                  have hlti : (nn : Int) < NW := by omega
                  have hge : decide ((NW : Int) ≤ (nn : Int)) = false := by simp; omega
                  obtain ⟨gx, rfl⟩ := HAO.out (by omega)
                  have hcw : wr3.cell? ⟨gx, nn, none⟩ = some (.int .i64 p.pid) := by
                    have h1 := HWT.out hw
                    rw [← HNN.out] at h1
                    have := HOK.out.cells (g := gx) rfl nn (.int .i64 p.pid) (by unfold wv; rw [List.getElem?_map, h1]; rfl)
                    rwa [show (⟨gx, 0, none⟩ : Addr).add nn = ⟨gx, nn, none⟩ by simp [Addr.add]; intro h; exact h.symm] at this
                  have hgx3 := World.block_lt_of_cell? _ _ hcw
                  clear hwk
                  go_wp2_with fail
                  refine hga.mono ?_
                  rintro e w8 ⟨rfl, hs8⟩
                  obtain ⟨V, hV⟩ : ∃ V, V = w8.alloc (.cells #[.int .i64 p.pid, .int .i64 p.par, .int .i64 1, .int .i64 p.uid, .int .i64 p.gid, .string ⟨#[]⟩, .int .i64 p.stat, .bool p.kil] 34) := ⟨_, rfl⟩
                  have hs8V : Same (fun _ => False) wr3 V := by rw [hV]; exact hs8.alloc _
                  have q2 : V.cell? ⟨gw, k * 8 + 2, none⟩ = some (.int .i64 2) := by rw [← hst.1]; exact hs8V.cell (HC.out 2 _ rfl) (fun h => h)
                  have q4 : V.cell? ⟨gw, k * 8 + 5, none⟩ = some (.string c) := by rw [← hst.2]; exact hs8V.cell (HC.out 5 _ rfl) (fun h => h)
                  have qw := hs8V.cell hcw (fun h => h)
                  have y0 : V.cell? ⟨w8.heap.size, 0, none⟩ = some (.int .i64 p.pid) := by rw [hV]; simp [go_sem]
                  have y2 : V.cell? ⟨w8.heap.size, 2, none⟩ = some (.int .i64 1) := by rw [hV]; simp [go_sem]
                  have y5 : V.cell? ⟨w8.heap.size, 5, none⟩ = some (.string ⟨#[]⟩) := by rw [hV]; simp [go_sem]
                  have HV := Lib.hid hV
                  have HS8V := Lib.hid hs8V
                  clear hga hs8 hs8V hV f0 hcw hst
                  go_wp2
                  rw [← HV.out]
                  go_quiet ((go_at_call 24; refine Calls.quiet_of_same (htx _)))
                  go_wp2
                  go_quiet (fail)
                  go_wp2
                  have hsu := HSUCC.out
                  rw [if_pos hw] at hsu
                  go_round
                  case rel => exact ⟨k + 1, nn + 1, _, rfl, by omega, by go_num, by go_num, by rw [hsu, HNN.out], HTK.out.same0 (HS8V.out.drewN _), ownsRow_same HWK.out (HS8V.out.drewN _) (fun _ _ h => h), ownsRow_same HOK.out (HS8V.out.drewN _) (fun _ _ h => h), HSK.out.trans ((HS8V.out.drewN _).mono (fun _ _ h => h.elim))⟩
                  case measure => simp [intOf]; omega
                · have hw' : isW c p = false := by simpa using hw
                  have hwk : wk c p = p := by unfold wk; rw [hw']; rfl
                  rw [hwk] at hga
                  simp only [getv, fe, Pr.agg] at hga
                  clear hwk
                  by_cases h2 : p.st = 2
                  · have hch : (p.ch == c) = false := beq_ne (fun h => hw (by simp [isW, h2, h]))
                    have hch2 : (p.ch.toList == c.toList) = false := by rw [← beq_toListBytes]; exact hch
                    go_wp2_with fail
                    refine hga.mono ?_
                    rintro e w8 ⟨rfl, hs8⟩
                    obtain ⟨V, hV⟩ : ∃ V, V = w8.alloc (.cells #[.int .i64 p.pid, .int .i64 p.par, .int .i64 p.st, .int .i64 p.uid, .int .i64 p.gid, .string p.ch, .int .i64 p.stat, .bool p.kil] 34) := ⟨_, rfl⟩
                    have hs8V : Same (fun _ => False) wr3 V := by rw [hV]; exact hs8.alloc _
                    have q2 : V.cell? ⟨gw, k * 8 + 2, none⟩ = some (.int .i64 2) := by rw [← h2]; exact hs8V.cell (HC.out 2 _ rfl) (fun h => h)
                    have q5 : V.cell? ⟨gw, k * 8 + 5, none⟩ = some (.string p.ch) := hs8V.cell (HC.out 5 _ rfl) (fun h => h)
                    clear h2
                    have m0 : V.cell? ⟨gw, k * 8, none⟩ = some (.int .i64 p.pid) := hs8V.cell (HC.out 0 _ rfl) (fun h => h)
                    have m1 := hs8V.cell (HC.out 1 _ rfl) (fun h => h)
                    have m2 := hs8V.cell (HC.out 2 _ rfl) (fun h => h)
                    have m3 := hs8V.cell (HC.out 3 _ rfl) (fun h => h)
                    have m4 := hs8V.cell (HC.out 4 _ rfl) (fun h => h)
                    have m5 := hs8V.cell (HC.out 5 _ rfl) (fun h => h)
                    have m6 := hs8V.cell (HC.out 6 _ rfl) (fun h => h)
                    have m7 := hs8V.cell (HC.out 7 _ rfl) (fun h => h)
                    have y0 : V.cell? ⟨w8.heap.size, 0, none⟩ = some (.int .i64 p.pid) := by rw [hV]; simp [go_sem]
                    have y1 : V.cell? ⟨w8.heap.size, 1, none⟩ = some (.int .i64 p.par) := by rw [hV]; simp [go_sem]
                    have y2 : V.cell? ⟨w8.heap.size, 2, none⟩ = some (.int .i64 p.st) := by rw [hV]; simp [go_sem]
                    have y3 : V.cell? ⟨w8.heap.size, 3, none⟩ = some (.int .i64 p.uid) := by rw [hV]; simp [go_sem]
                    have y4 : V.cell? ⟨w8.heap.size, 4, none⟩ = some (.int .i64 p.gid) := by rw [hV]; simp [go_sem]
                    have y5 : V.cell? ⟨w8.heap.size, 5, none⟩ = some (.string p.ch) := by rw [hV]; simp [go_sem]
                    have y6 : V.cell? ⟨w8.heap.size, 6, none⟩ = some (.int .i64 p.stat) := by rw [hV]; simp [go_sem]
                    have y7 : V.cell? ⟨w8.heap.size, 7, none⟩ = some (.bool p.kil) := by rw [hV]; simp [go_sem]
                    have Y := Lib.hid (And.intro m0 (And.intro m1 (And.intro m2 (And.intro m3 (And.intro m4 (And.intro m5 (And.intro m6 (And.intro m7 (And.intro y0 (And.intro y1 (And.intro y2 (And.intro y3 (And.intro y4 (And.intro y5 (And.intro y6 y7)))))))))))))))
                    have HV := Lib.hid hV
                    have HS8V := Lib.hid hs8V
                    clear hga hs8 hs8V hV m0 m1 m2 m3 m4 m5 m6 m7 y0 y1 y2 y3 y4 y5 y6 y7
                    go_wp2
                    rw [← HV.out]
                    go_quiet ((go_at_call 24; refine Calls.quiet_of_same (htx _)))
                    go_wp2
                    clear q2 q5
                    obtain ⟨m0, m1, m2, m3, m4, m5, m6, m7, y0, y1, y2, y3, y4, y5, y6, y7⟩ := Y.out
                    go_quiet (fail)
                    go_wp2
                    have hsu := HNO.out hw'
                    go_round
                    case rel => exact ⟨k + 1, nn, _, rfl, by omega, by go_num, rfl, by rw [hsu]; exact HNN.out, HTK.out.same0 (HS8V.out.drewN _), ownsRow_same HWK.out (HS8V.out.drewN _) (fun _ _ h => h), ownsRow_same HOK.out (HS8V.out.drewN _) (fun _ _ h => h), HSK.out.trans ((HS8V.out.drewN _).mono (fun _ _ h => h.elim))⟩
                    case measure => simp [intOf]; omega
                  · have h2' : (p.st == 2) = false := by simpa using h2
                    go_wp2_with fail
                    refine hga.mono ?_
                    rintro e w8 ⟨rfl, hs8⟩
                    obtain ⟨V, hV⟩ : ∃ V, V = w8.alloc (.cells #[.int .i64 p.pid, .int .i64 p.par, .int .i64 p.st, .int .i64 p.uid, .int .i64 p.gid, .string p.ch, .int .i64 p.stat, .bool p.kil] 34) := ⟨_, rfl⟩
                    have hs8V : Same (fun _ => False) wr3 V := by rw [hV]; exact hs8.alloc _
                    have q2 : V.cell? ⟨gw, k * 8 + 2, none⟩ = some (.int .i64 p.st) := hs8V.cell (HC.out 2 _ rfl) (fun h => h)
                    have m0 : V.cell? ⟨gw, k * 8, none⟩ = some (.int .i64 p.pid) := hs8V.cell (HC.out 0 _ rfl) (fun h => h)
                    have m1 := hs8V.cell (HC.out 1 _ rfl) (fun h => h)
                    have m2 := hs8V.cell (HC.out 2 _ rfl) (fun h => h)
                    have m3 := hs8V.cell (HC.out 3 _ rfl) (fun h => h)
                    have m4 := hs8V.cell (HC.out 4 _ rfl) (fun h => h)
                    have m5 := hs8V.cell (HC.out 5 _ rfl) (fun h => h)
                    have m6 := hs8V.cell (HC.out 6 _ rfl) (fun h => h)
                    have m7 := hs8V.cell (HC.out 7 _ rfl) (fun h => h)
                    have y0 : V.cell? ⟨w8.heap.size, 0, none⟩ = some (.int .i64 p.pid) := by rw [hV]; simp [go_sem]
                    have y1 : V.cell? ⟨w8.heap.size, 1, none⟩ = some (.int .i64 p.par) := by rw [hV]; simp [go_sem]
                    have y2 : V.cell? ⟨w8.heap.size, 2, none⟩ = some (.int .i64 p.st) := by rw [hV]; simp [go_sem]
                    have y3 : V.cell? ⟨w8.heap.size, 3, none⟩ = some (.int .i64 p.uid) := by rw [hV]; simp [go_sem]
                    have y4 : V.cell? ⟨w8.heap.size, 4, none⟩ = some (.int .i64 p.gid) := by rw [hV]; simp [go_sem]
                    have y5 : V.cell? ⟨w8.heap.size, 5, none⟩ = some (.string p.ch) := by rw [hV]; simp [go_sem]
                    have y6 : V.cell? ⟨w8.heap.size, 6, none⟩ = some (.int .i64 p.stat) := by rw [hV]; simp [go_sem]
                    have y7 : V.cell? ⟨w8.heap.size, 7, none⟩ = some (.bool p.kil) := by rw [hV]; simp [go_sem]
                    have Y := Lib.hid (And.intro m0 (And.intro m1 (And.intro m2 (And.intro m3 (And.intro m4 (And.intro m5 (And.intro m6 (And.intro m7 (And.intro y0 (And.intro y1 (And.intro y2 (And.intro y3 (And.intro y4 (And.intro y5 (And.intro y6 y7)))))))))))))))
                    have HV := Lib.hid hV
                    have HS8V := Lib.hid hs8V
                    clear hga hs8 hs8V hV m0 m1 m2 m3 m4 m5 m6 m7 y0 y1 y2 y3 y4 y5 y6 y7
                    go_wp2
                    rw [← HV.out]
                    go_quiet ((go_at_call 24; refine Calls.quiet_of_same (htx _)))
                    go_wp2
                    clear q2
                    obtain ⟨m0, m1, m2, m3, m4, m5, m6, m7, y0, y1, y2, y3, y4, y5, y6, y7⟩ := Y.out
                    go_quiet (fail)
                    go_wp2
                    have hsu := HNO.out hw'
                    go_round
                    case rel => exact ⟨k + 1, nn, _, rfl, by omega, by go_num, rfl, by rw [hsu]; exact HNN.out, HTK.out.same0 (HS8V.out.drewN _), ownsRow_same HWK.out (HS8V.out.drewN _) (fun _ _ h => h), ownsRow_same HOK.out (HS8V.out.drewN _) (fun _ _ h => h), HSK.out.trans ((HS8V.out.drewN _).mono (fun _ _ h => h.elim))⟩
                    case measure => simp [intOf]; omega
              · obtain rfl : k = n' + 1 := by omega
                have hfull : L.take (n' + 1) = L := by rw [← hn', List.take_length]
                have hnW : nn = NW := by rw [hnn, HNW.out, hfull]
                subst hnW
                have hTI3 : TabI wr3 t m (L.map (wk c)) last := ⟨hTk, HI.out.wake c⟩
                have HWB := Lib.hid (wake_any hTk hTI3.inv.bd hTI3.ne c)
                have HSK := Lib.hid hsk
                have HLB2 := Lib.hid (fun q (hq : q ∈ L.map (wk c)) => show w.heap.size ≤ q.b by
                  obtain ⟨y, hy, rfl⟩ := List.mem_map.1 hq
                  rw [(wk_id c y).2]; exact HLB.out y hy)
                clear hTk hwk hok hsk hTI3 hnn
                go_wp2_with fail
                refine (htx _).mono ?_
                rintro e w9 ⟨rfl, rfl⟩
                go_wp2_with fail
                refine HWB.out.mono ?_
                rintro e w10 ⟨vz, rfl, hvz, -, hs10⟩
                rw [woken_gone] at hvz
                obtain ⟨az, cz, rfl, -⟩ := own_row_any hvz
                have HS10 := Lib.hid (HSK.out.trans (hs10.mono (T := fun k => w.heap.size ≤ k) (fun k _ e => own_new ht0 hm0 HLB2.out e)))
                clear hvz hs10
                go_wp2
                go_ret
                exact ⟨rfl, HS10.out.mono (fun k hk h => by omega)⟩
end Go.Proofs.Ytaeabeofpkfadaa
