/- undo: Record. Condition: the lists' lengths. -/
import Derived.Test.YtcnocfboklhjnaaRe
namespace Go.Proofs.Ytcnocfboklhjnaa
open Go.RowKit Go.Shelf
attribute [local go_sem] Oper.semAt_some

/-- What is known between two operations. -/
structure RecI (w : World) (m : Nat) (L : List Tri) (id : Int) (ops : List Tri) (i : Nat) (W : World) (al : List ((Int × Int) × Value)) (l : List Tri) : Prop where
  mp : MapIs kvp W m al
  tab : Un.TabR al l
  rl : Un.RightL l
  len : l.length ≤ 64 + i
  req : Un.recL id L (ops.map opOf) = Un.recL id l ((ops.drop i).map opOf)
  sm : Same (fun b => w.heap.size ≤ b) w W
theorem drop_cons {ops : List Tri} {i : Nat} {t : Tri} (h : ops[i]? = some t) : ops.drop i = t :: ops.drop (i + 1) := by
  obtain ⟨hi, rfl⟩ := List.getElem?_eq_some_iff.1 h
  exact List.drop_eq_getElem_cons hi
theorem lkw {W : World} {m : Nat} {al : List ((Int × Int) × Value)} (hm : MapIs kvp W m al) (p : Int × Int) :
    (Instr.lookup 55 (.map (some m)) (kvp p) false).run Try.prog W = .ok ((aget al p).getD (.int .i64 0)) W := by
  rw [run_lookup_is (P := Try.prog) (T := 55) (K := 58) (E := 3) Try.underlying55 key58 (z := .int .i64 0) (fun _ => by kernel_rfl) hm p false]
  simp
theorem len55 {W : World} {m : Nat} {al : List ((Int × Int) × Value)} (h : MapIs kvp W m al) : (Builtin.len_ #[55] 3 #[.map (some m)]).run Try.prog W = .ok (.int .i64 al.length) W := by
  obtain ⟨es, clk, h1, hst, h2⟩ := h
  have hn : es.size = al.length := by have := congrArg List.length h2; simpa using this
  unfold Builtin.len_
  simp [Sem.run_bind, run_underlying Try.underlying55, runGet h1, Result.andThen, Sem.run_pure, hn, goInt]
theorem tab_getD {al : List ((Int × Int) × Value)} {l : List Tri} (hT : Un.TabR al l) (p : Int × Int) : (aget al p).getD (.int .i64 0) = .int .i64 (Un.ofN l p.1 p.2) := by
  rw [hT.get]
  by_cases h : Un.ofN l p.1 p.2 = 0
  · simp [h]
  · simp [h]
theorem wrapS {a b : Int} (ha : -32767 ≤ a ∧ a ≤ 32767) (hb : -32767 ≤ b ∧ b ≤ 32767) : IntKind.i64.wrap (a - b) = a - b := by
  simp [IntKind.wrap, IntKind.bits, IntKind.signed]
  omega
set_option maxHeartbeats 3200000 in
set_option maxRecDepth 16384 in
theorem record_any (w : World) (a o : Option Addr) (c co : Nat) (L ops : List Tri) (id : Int) (hr : TriR w a L) (ho : TriR w o ops) (hlen : L.length ≤ maxLen) (hol : ops.length ≤ maxLen)
    (ha : ∀ x, a = some x → x.block < w.heap.size) (hoa : ∀ x, o = some x → x.block < w.heap.size) :
    Calls Try.prog 12 #[.slice a L.length c, .int .i64 id, .slice o ops.length co] w fun e w' =>
      ∃ v, e = .returned (.tuple #[v, .int .i64 (recS L id ops).2]) ∧ OutL w' w.heap.size v (recS L id ops).1 ∧ Same (fun _ => False) w w' := by
  obtain ⟨R, hRd⟩ : ∃ R, R = recS L id ops := ⟨_, rfl⟩
  rw [← hRd]
  have HRD := Lib.hid hRd
  clear hRd
  have hra := right_any w a c L hr hlen ha
  have HR := Lib.hid hr
  have HO := Lib.hid ho
  have HL := Lib.hid hlen
  have hol2 : ops.length ≤ 9223372036854775807 := by unfold maxLen at hol; omega
  obtain ⟨n, hn⟩ : ∃ n, n = ops.length := ⟨_, rfl⟩
  rw [← hn] at hol2 ⊢
  have HN := Lib.hid hn
  have HOL := Lib.hid hol
  obtain ⟨nL, hnL⟩ : ∃ n, n = L.length := ⟨_, rfl⟩
  rw [← hnL] at hra ⊢
  have HNL := Lib.hid hnL
  clear hr ho hlen hol hn hnL
  go_enter Try.func12, Try.ntmps12
  go_wp2_with fail
  refine hra.mono ?_
  rintro e w1 ⟨b, hb, rfl, hs1⟩
  have HB := Lib.hid hb
  clear hb hra
  cases b with
  | false =>
    have hS : R = (none, 2) := by
      rw [HRD.out, recS, if_pos]
      exact .inl (fun h => by have := HB.out.2 h; cases this)
    have HS := Lib.hid hS
    clear hS
    go_wp2
    go_ret2
    rw [HS.out]
    exact ⟨_, rfl, rfl, hs1⟩
  | true =>
    have HRt : Hid (Un.Right L) := Lib.hid (HB.out.1 rfl)
    clear HB
    by_cases h1 : id < 0
    · have e1 : decide (id < 0) = true := by simpa using h1
      have hS : R = (none, 2) := by rw [HRD.out, recS, if_pos (.inr (.inl h1))]
      have HS := Lib.hid hS
      clear hS
      go_wp2
      go_ret2
      rw [HS.out]
      exact ⟨_, rfl, rfl, hs1⟩
    have e1 : decide (id < 0) = false := by simpa using h1
    by_cases h2 : 8 < n
    · have hS : R = (none, 2) := by rw [HRD.out, recS, if_pos (.inr (.inr (by have := HN.out; omega)))]
      have HS := Lib.hid hS
      have e2 : decide ((8 : Int) < n) = true := by simp; omega
      clear hS
      go_wp2
      go_ret2
      rw [HS.out]
      exact ⟨_, rfl, rfl, hs1⟩
    have e2 : decide ((8 : Int) < n) = false := by simp; omega
    have hwr := wrong28 w1 o co ops (HO.out.same0 hs1) HOL.out (fun x hx => by have := hoa x hx; have := hs1.size; omega)
    rw [← HN.out] at hwr
    go_wp2_with fail
    refine hwr.mono ?_
    rintro e w2 ⟨b2, hb2, rfl, hs2⟩
    have HB2 := Lib.hid hb2
    clear hb2 hwr
    cases b2 with
    | true =>
      have hS : R = (none, 2) := by
        rw [HRD.out, recS, if_neg (by rintro (h | h | h); exact h HRt.out; omega; have := HN.out; omega), if_pos (HB2.out.1 rfl)]
      have HS := Lib.hid hS
      clear hS
      go_wp2
      go_ret2
      rw [HS.out]
      exact ⟨_, rfl, rfl, hs1.trans hs2⟩
    | false =>
      have HS : Hid (R = match Un.recL id L (ops.map opOf) with | none => (none, 132) | some l => if 64 < l.length then (none, 101) else (some l, 0)) := Lib.hid (by
        rw [HRD.out, recS, if_neg (by rintro (h | h | h); exact h HRt.out; omega; have := HN.out; omega), if_neg (fun h => by have := HB2.out.2 h; cases this)]; rfl)
      have HG : Hid (∀ t ∈ ops, badOp t = false) := Lib.hid (fun t ht => by
        cases hc : badOp t
        · rfl
        · have := HB2.out.2 ⟨t, ht, hc⟩; cases this)
      have hs12 := hs1.trans hs2
      have hzs := hs12.size
      have htb := table_any w2 a c L (HR.out.same0 hs12) ⟨HRt.out.ok, HRt.out.asc⟩ HL.out (fun x hx => by have := ha x hx; omega)
      rw [← HNL.out] at htb
      clear HB2 HRD hs1 hs2
      go_wp2_with fail
      refine htb.mono ?_
      rintro e w3 ⟨al, rfl, hm3, hT3, hs3⟩
      clear htb
      have HS3 := Lib.hid ((hs12.trans hs3).mono (T := fun b => w.heap.size ≤ b) (fun _ _ h => h.elim))
      have HI0 : Hid (RecI w w2.heap.size L id ops 0 w3 al L) := Lib.hid ⟨hm3, hT3, ⟨HRt.out.ok, HRt.out.asc⟩, by have := HRt.out.len; omega, by simp, HS3.out⟩
      have hz3 := hs3.size
      have hml := hm3.lt
      clear hm3 hT3 hs3 hs12
      go_wp2
      go_loopw [30] (fun v30 wx => ∃ (i : Nat) (W : World) (al : List ((Int × Int) × Value)) (l : List Tri), W = wx ∧ i ≤ n ∧ v30 = .int .i64 i ∧ Hid (RecI w w2.heap.size L id ops i W al l)) (fun v30 _ => n - (intOf v30).toNat)
      case atStart => exact ⟨0, _, al, L, rfl, by omega, rfl, HI0⟩
      case round =>
        obtain ⟨i, W, al, l, hW, hi, rfl, HI⟩ := hrel
        subst hW
        by_cases hin : i < n
        · have hii : (i : Int) < n := by omega
          obtain ⟨t, ht⟩ : ∃ t, ops[i]? = some t := ⟨_, List.getElem?_eq_getElem (by have := HN.out; omega)⟩
          obtain ⟨x, rfl, hx⟩ := HO.out i t ht
          have hxb := hoa x rfl
          have hs := HI.out.sm
          have hx2 := hx.same hs (by rw [show (x.add (i * 3)).block = x.block by unfold Addr.add; split <;> rfl]; omega)
          have x0 := hx2.c0
          have x1 := hx2.c1
          have x2 := hx2.c2
          have hzw := hs.size
          have hmlt := HI.out.mp.lt
          have hbad : badOp t = false := HG.out t (List.mem_of_getElem? ht)
          have hbd : 0 ≤ t.id ∧ (-32767 ≤ t.num ∧ t.num ≤ 32767) := by
            unfold badOp okS at hbad
            simp only [Bool.or_eq_false_iff, decide_eq_false_iff_not, Bool.not_eq_false', Bool.and_eq_true, decide_eq_true_eq] at hbad
            exact ⟨by omega, hbad.2⟩
          have hofb := ofN_bound HI.out.rl id t.id
          have HRQ : Hid (Un.recL id L (ops.map opOf) = Un.recL id l (opOf t :: (ops.drop (i + 1)).map opOf)) := Lib.hid (by rw [HI.out.req, drop_cons ht]; rfl)
          clear hx hx2 hs ht hbad
          cases hfl : (bits .and .i64 t.n 2 == 0) with
          | true =>
            have HFL := Lib.hid hfl
            go_wp2
            go_round
            case rel =>
              refine ⟨i + 1, _, al, l, rfl, by omega, by go_num, ⟨?_, HI.out.tab, HI.out.rl, by have := HI.out.len; omega, ?_, ?_⟩⟩
              · exact HI.out.mp.al _
              · rw [HRQ.out, Un.recL, if_neg (by simp [opOf, HFL.out])]
              · exact HI.out.sm.alloc _
            case measure => simp [intOf]; omega
          | false =>
            have HFL := Lib.hid hfl
            obtain ⟨WB, hWB⟩ : ∃ WB, WB = (W.alloc (.cells #[.int .i64 t.id, .int .i64 t.num, .int .i64 t.n] 35)).alloc (.cells #[.int .i64 id, .int .i64 t.id] 58) := ⟨_, rfl⟩
            have hsB : Same (fun _ => False) W WB := by rw [hWB]; exact (same_alloc _).alloc _
            have b0 : WB.cell? ⟨W.heap.size + 1, 0, none⟩ = some (.int .i64 id) := by rw [hWB]; simp [go_sem]
            have b1 : WB.cell? ⟨W.heap.size + 1, 1, none⟩ = some (.int .i64 t.id) := by rw [hWB]; simp [go_sem]
            have q1 : WB.cell? ⟨W.heap.size, 1, none⟩ = some (.int .i64 t.num) := by rw [hWB]; simp [go_sem]
            have hzB : WB.heap.size = W.heap.size + 2 := by rw [hWB]; simp
            have hmB : MapIs kvp WB.drew w2.heap.size al := HI.out.mp.same hsB.drew (fun h => h)
            obtain ⟨w5, se, hE, hsE, hzE, hmE, hst⟩ := run_entry_is (P := Try.prog) (T := 55) (K := 58) (E := 3) Try.underlying55 key58 (z := .int .i64 0) (fun _ => by kernel_rfl) hmB (id, t.id)
            obtain ⟨w6, hS6, hs6, hz6, hm6⟩ := hst (.int .i64 (Un.ofN l id t.id - t.num))
            have hl0 := lkw hmB (id, t.id)
            have hl5 := lkw hmE (id, t.id)
            rw [aget_aset, if_pos rfl] at hl5
            rw [tab_getD HI.out.tab] at hl0 hl5 hE hmE
            have hwr2 := wrapS hofb hbd.2
            have hzB2 : WB.drew.heap.size = WB.heap.size := rfl
            have e50 := hsE.cell (show WB.drew.cell? ⟨W.heap.size + 1, 0, none⟩ = _ from b0) (by simp; omega)
            have e51 := hsE.cell (show WB.drew.cell? ⟨W.heap.size + 1, 1, none⟩ = _ from b1) (by simp; omega)
            have e5q := hsE.cell (show WB.drew.cell? ⟨W.heap.size, 1, none⟩ = _ from q1) (by simp; omega)
            have d0 := hs6.cell e50 (by simp; omega)
            have d1 := hs6.cell e51 (by simp; omega)
            have HA := Lib.hid (And.intro hm6 (((hsB.drew.mono (T := fun b => w.heap.size ≤ b) (fun _ _ h => h.elim)).trans (hsE.mono (fun b _ e => by omega))).trans (hs6.mono (fun b _ e => by omega))))
            have HWB := Lib.hid hWB
            clear hmB hsB hsE hmE hst hs6 hm6
            go_wp2_with fail
            rw [← hWB]
            clear hWB
            go_region
            all_goals
              obtain ⟨dd, hdd⟩ : ∃ dd, dd = Un.ofN l id t.id - t.num := ⟨_, rfl⟩
              rw [← hdd]
              have h6 := HA.out
              rw [← hdd] at h6
              have hlk6 := lkw h6.1 (id, t.id)
              rw [aget_aset, if_pos rfl] at hlk6
              have HDD := Lib.hid hdd
              have H6 := Lib.hid h6
              clear hdd h6 hl0 hl5 hE hS6
              simp only [Option.getD_some] at hlk6
              have hz6' : w6.heap.size = W.heap.size + 2 := by omega
              have hA := are_any (w6.alloc (.cells #[.int .i64 dd] 3)) (W.heap.size + 2) dd (by rw [← hz6']; simp [go_sem])
              go_wp2_with fail
              refine hA.mono ?_
              rintro e w7 ⟨rfl, rfl⟩
              have hm7 : MapIs kvp (w6.alloc (.cells #[.int .i64 dd] 3)) w2.heap.size (aset al (id, t.id) (.int .i64 dd)) := H6.out.1.al _
              have hlk7 := lkw hm7 (id, t.id)
              rw [aget_aset, if_pos rfl] at hlk7
              simp only [Option.getD_some] at hlk7
              obtain ⟨w8, hdel, hs8, hz8, hm8⟩ := run_delete_is (P := Try.prog) (T := 55) (K := 58) (E := 3) Try.underlying55 key58 hm7 (id, t.id) 58 0
              have H8 := Lib.hid (And.intro hm8 (And.intro hs8 hm7))
              have d07 : (w6.alloc (.cells #[.int .i64 dd] 3)).cell? ⟨W.heap.size + 1, 0, none⟩ = some (.int .i64 id) := by simp [go_sem, d0, hz6']
              have d17 : (w6.alloc (.cells #[.int .i64 dd] 3)).cell? ⟨W.heap.size + 1, 1, none⟩ = some (.int .i64 t.id) := by simp [go_sem, d1, hz6']
              have HS7 := Lib.hid ((H6.out.2).alloc (.cells #[.int .i64 dd] 3))
              obtain ⟨w7, hw7⟩ : ∃ w7, w7 = w6.alloc (.cells #[.int .i64 dd] 3) := ⟨_, rfl⟩
              rw [← hw7] at hlk7 hdel d07 d17 H8 HS7 ⊢
              clear hm7 hm8 hs8 hA hlk6 d0 d1 hw7
              cases hok : okS dd with
              | false =>
                have hR : R = (none, 132) := by
                  rw [HS.out, HRQ.out, Un.recL, if_pos (by simp [opOf, HFL.out]), if_pos]
                  show Un.outR (Un.ofN l id t.id - t.num)
                  rw [← HDD.out]
                  unfold Un.outR
                  unfold okS at hok
                  simp at hok
                  omega
                have HR2 := Lib.hid hR
                clear hR hok
                go_wp2
                go_ret2
                rw [HR2.out]
                exact ⟨_, rfl, rfl, (HI.out.sm.trans HS7.out).mono (fun b hb h => by omega)⟩
              | true =>
                have hnx : Un.recL id l (opOf t :: (ops.drop (i + 1)).map opOf) = Un.recL id (Un.upd l ⟨id, t.id, dd⟩) ((ops.drop (i + 1)).map opOf) := by
                  rw [Un.recL, if_pos (by simp [opOf, HFL.out]), if_neg]
                  · show Un.recL id (Un.upd l ⟨id, t.id, Un.ofN l id t.id - t.num⟩) _ = _
                    rw [← HDD.out]
                  · show ¬ Un.outR (Un.ofN l id t.id - t.num)
                    rw [← HDD.out]
                    unfold Un.outR
                    unfold okS at hok
                    simp at hok
                    omega
                have hrl : Un.RightL (Un.upd l ⟨id, t.id, dd⟩) := HI.out.rl.upd (fun h0 => ⟨h1, hbd.1, h0, by unfold okS at hok; simp at hok; omega⟩)
                have hle := upd_len l ⟨id, t.id, dd⟩
                have HNX := Lib.hid (And.intro hnx hrl)
                clear hnx hrl hok
                by_cases h0 : dd = 0
                · have h0' : (dd == 0) = true := by simpa using h0
                  have HD0 := Lib.hid h0
                  have HT := Lib.hid (HI.out.tab.del HI.out.rl.asc (x := ⟨id, t.id, dd⟩) h0 (.int .i64 dd))
                  clear h0
                  go_wp2
                  refine ⟨⟨i + 1, _, _, _, rfl, by omega, by go_num, ⟨H8.out.1, HT.out, HNX.out.2, by have := HI.out.len; omega, by rw [HRQ.out, HNX.out.1], (HI.out.sm.trans HS7.out).trans (H8.out.2.1.mono (fun b _ e => by omega))⟩⟩, by simp [intOf]; omega⟩
                · have h0' : (dd == 0) = false := by simpa using h0
                  have HT := Lib.hid (HI.out.tab.set HI.out.rl.asc (x := ⟨id, t.id, dd⟩) h0)
                  clear h0
                  go_wp2
                  refine ⟨⟨i + 1, _, _, _, rfl, by omega, by go_num, ⟨H8.out.2.2, HT.out, HNX.out.2, by have := HI.out.len; omega, by rw [HRQ.out, HNX.out.1], HI.out.sm.trans HS7.out⟩⟩, by simp [intOf]; omega⟩
        · obtain rfl : i = n := by omega
          have hlr := len55 HI.out.mp
          have hal := HI.out.tab.len HI.out.rl
          rw [hal] at hlr
          have hrl : R = if 64 < l.length then (none, 101) else (some l, 0) := by
            rw [HS.out, HI.out.req, HN.out, List.drop_length]
            rfl
          have HRL := Lib.hid hrl
          have hll := HI.out.len
          have hi8 : i ≤ 8 := by omega
          have HAL := Lib.hid hal
          clear hrl hal
          by_cases h64 : 64 < l.length
          · have e64 : decide ((64 : Int) < l.length) = true := by simp; omega
            have HR2 : Hid (R = (none, 101)) := Lib.hid (by rw [HRL.out, if_pos h64])
            clear h64
            go_wp2
            go_ret2
            rw [HR2.out]
            exact ⟨_, rfl, rfl, HI.out.sm.mono (fun b hb h => by omega)⟩
          · have e64 : decide ((64 : Int) < l.length) = false := by simp; omega
            have HR2 : Hid (R = (some l, 0)) := Lib.hid (by rw [HRL.out, if_neg h64])
            have hli := list_any HI.out.mp HI.out.tab HI.out.rl (by rw [HAL.out]; omega)
            clear h64
            go_wp2_with fail
            refine hli.mono ?_
            rintro e w8 ⟨v, rfl, hv, hs8⟩
            have HV := Lib.hid (And.intro hv hs8)
            clear hv hs8 hli
            go_wp2
            go_ret2
            rw [HR2.out]
            exact ⟨v, rfl, ownsRow_base HV.out.1 HI.out.sm.size, (HI.out.sm.trans (HV.out.2.mono (fun _ _ h => h.elim))).mono (fun b hb h => by omega)⟩
end Go.Proofs.Ytcnocfboklhjnaa
