/- The walk of PtableCounts. Conditions: the arguments' form. -/
import Derived.Test.YtlbgnmcjdmdjpaaFl
namespace Go.Proofs.Ytlbgnmcjdmdjpaa
open Go.RowKit Go.Shelf
attribute [local go_sem] Oper.semAt_some

theorem wrap4 (d : Int) : (IntKind.u64.wrap d).tmod 4 = d % 4 := by
  have : IntKind.u64.wrap d = d % 2 ^ 64 := rfl
  rw [this, Int.tmod_eq_emod_of_nonneg (by omega)]
  omega
theorem runs_take (l : List Nat) (k : Nat) (h : k < l.length) : runs (-1) (l.take (k + 1)) = runs (-1) (l.take k) + (if ((l[k] : Nat) : Int) / 16 ≠ lastOf (-1) (l.take k) then 1 else 0) ∧ lastOf (-1) (l.take (k + 1)) = ((l[k] : Nat) : Int) / 16 := by
  rw [List.take_succ_eq_append_getElem h, runs_append, lastOf_append]
  simp only [runs, lastOf, Nat.add_zero]
  have : ((l[k] / 16 : Nat) : Int) = ((l[k] : Nat) : Int) / 16 := by omega
  rw [this]
  exact ⟨rfl, rfl⟩
theorem runs_le (l : List Nat) : ∀ last, runs last l ≤ l.length := by
  induction l with
  | nil => intro last; simp [runs]
  | cons p l ih => intro last; simp only [runs, List.length_cons]; have := ih ((p / 16 : Nat) : Int); split <;> omega
theorem lastOf_ge (l : List Nat) : ∀ last : Int, -1 ≤ last → -1 ≤ lastOf last l := by
  induction l with
  | nil => intro last h; exact h
  | cons p l ih => intro last h; exact ih _ (by omega)

set_option maxHeartbeats 3200000 in
set_option maxRecDepth 8192 in
theorem counts_walk (w : World) (a : Option Addr) (len cap : Nat) (hlen : len ≤ maxLen) (hrows : ActsAt w a len) (hnil : a = none → len = 0) :
    Calls Try.prog 5 #[.slice a len cap] w fun e w' => e = .returned (.bool true) ∧ Same (fun _ => False) w w' := by
  unfold maxLen at hlen
  have HROWS := Lib.hid hrows
  have HNIL := Lib.hid hnil
  clear hrows hnil
  go_enter Try.func5, Try.ntmps5
  go_wp2_with fail
  refine (shown2 _).mono ?_
  rintro e w1 ⟨rfl, hs1⟩
  go_wp2_with fail
  refine (new_any _ 40 (by omega) (by omega)).mono ?_
  rintro e w2 ⟨f, fb, rfl, hf, hfb, hM, hs2⟩
  go_wp2_with fail
  refine (root_any hM).mono ?_
  rintro e w3 (⟨hall, -, -, -⟩ | ⟨k, hk, hz, hbel, rfl, hMA, hs3⟩)
  · have := hall 0 (by simp)
    simp at this
  obtain rfl : k = 0 := by
    rcases Nat.eq_zero_or_pos k with h | h
    · exact h
    · have := hbel 0 h; simp at this
  clear hbel hz hk hM
  have hsz := hs1.size
  have hsw : Same (fun k => w.heap.size ≤ k) w w3 := ((hs1.trans hs2).mono (fun _ _ h => h.elim)).trans (hs3.mono (fun k _ h => by omega))
  have HT := Lib.hid (Mm.tree_new 40 (by omega) (by omega))
  have HMA := Lib.hid hMA
  clear hMA hs1 hs2 hs3
  go_wp2
  go_loopw [8] (fun v8 wr => ∃ i : Nat, i ≤ len ∧ i ≤ 60 ∧ v8 = .int .i64 i ∧ ∃ M T, MemAt wr f fb M ∧ M.Tree 0 T 1 ∧ M.n = 40 ∧ Same (fun k => w.heap.size ≤ k) w wr) (fun v8 _ => len - (intOf v8).toNat)
  case atStart => exact ⟨0, by omega, by omega, rfl, _, _, HMA.out, HT.out, rfl, hsw⟩
  case round =>
    obtain ⟨i, hi1, hi2, rfl, M, T, hMi, hTi, hn, hsi⟩ := hrel
    by_cases hik : i < len ∧ i < 60
    · obtain ⟨hlt, hlt8⟩ := hik
      cases a with
      | none => exact absurd (HNIL.out rfl) (by omega)
      | some x =>
        obtain ⟨d, p, q, K, hact, hpp⟩ := HROWS.out.act rfl hlt
        have hblt := hact.lt
        have hw4 := wrap4 d
        have hstep : ∀ (w5 : World) (M' : Mm), MemAt w5 f fb M' → (∃ T', M'.Tree 0 T' 1 ∧ M'.n = M.n) → Same (fun k => w.heap.size ≤ k) w w5 → Hid (MemAt w5 f fb M' ∧ (∃ T', M'.Tree 0 T' 1 ∧ M'.n = 40) ∧ Same (fun k => w.heap.size ≤ k) w w5) :=
          fun w5 M' h1 ⟨T', h2, h3⟩ h4 => Lib.hid ⟨h1, ⟨T', h2, h3.trans hn⟩, h4⟩
        have hmt := Mm.map_tree hTi p q K
        have hut := Mm.unmap_tree hTi p
        rw [show ((0 : Nat) : Int) = 0 from rfl] at hmt hut
        have HMT := Lib.hid hmt
        have HUT := Lib.hid hut
        have HST := Lib.hid @hstep
        clear hn hTi hmt hut hstep
        by_cases hd : d % 4 = 3
        · obtain ⟨c0, c1, c2, c3⟩ := hact.kept hsi (fun h => by omega)
          have hdb : (d % 4 == 3) = true := by simpa using hd
          clear hd hact
          go_wp2_with fail
          refine (unmap_any hMi 0 p hpp).mono ?_
          rintro e w5 ⟨rfl, hM5, hs5⟩
          have HST5 := HST.out _ _ hM5 HUT.out (hsi.trans (hs5.mono (fun k _ h => by omega)))
          clear HUT HMT HST hM5 hs5 hsi hMi c0 c1 c2 c3 hw4
          generalize (M.unmap 0 p).1 = M' at HST5
          generalize (M.unmap 0 p).2.1 = u1
          generalize (M.unmap 0 p).2.2 = u2
          obtain ⟨T', hT', hn'⟩ := HST5.out.2.1
          have hck := hT'.check0
          have hruns := hT'.runs.trans hn'
          rw [show ((0 : Nat) : Int) = 0 from rfl] at hruns
          have HN' := Lib.hid hn'
          have HT' := Lib.hid hT'
          have HCK := Lib.hid hck
          clear hT' hn' hck
          go_wp2_with fail
          refine (pages_is HST5.out.1 0 HCK.out).mono ?_
          rintro e w6 ⟨sa, scap, rfl, hJ, hg7, hs6⟩
          have hM6 := HST5.out.1.same0 hs6
          have hs7 := HST5.out.2.2.trans (hs6.mono (fun _ _ h => h.elim))
          have hpl := M'.pages_len 0
          obtain ⟨l, hl⟩ : ∃ l, l = M'.pages 0 := ⟨_, rfl⟩
          rw [← hl] at hJ hruns hpl ⊢
          have HL := Lib.hid hl
          have HJ := Lib.hid hJ
          have HR := Lib.hid hruns
          have HM6 := Lib.hid hM6
          clear hl hJ hg7 hM6 hruns hs6
          go_wp2
          go_loop [11, 12, 13] (fun v11 v12 v13 => ∃ k : Nat, k ≤ l.length ∧ v13 = .int .i64 k ∧ v11 = .int .i64 (1 + runs (-1) (l.take k)) ∧ v12 = .int .i64 (lastOf (-1) (l.take k))) (fun _ _ v13 => l.length - (intOf v13).toNat)
          case atStart => exact ⟨0, by omega, rfl, rfl, rfl⟩
          case round =>
            obtain ⟨k, hk, rfl, rfl, rfl⟩ := hrel
            have hrl := runs_le (l.take k) (-1)
            have hrl2 : (l.take k).length ≤ k := List.length_take_le _ _
            by_cases hkl : k < l.length
            · have hkl' : (k : Int) < l.length := by omega
              obtain ⟨g, rcap, hsl, hcell⟩ : ∃ g rcap, Value.slice sa l.length scap = .slice (some ⟨g, 0, none⟩) l.length rcap ∧ w6.cell? ⟨g, k, none⟩ = some (.int .i64 (l[k] : Int)) := by
                rcases HJ.out with ⟨_, h0⟩ | ⟨g, c2, h1, h2, h3⟩
                · rw [h0] at hkl; simp at hkl
                · exact ⟨g, c2, h1, h3 k hkl⟩
              cases hsl
              obtain ⟨hr1, hr2⟩ := runs_take l k hkl
              have hlg := lastOf_ge (l.take k) (-1) (by omega)
              obtain ⟨x16, hx16⟩ : ∃ x : Int, x = (l[k] : Int) / 16 := ⟨_, rfl⟩
              have hd16 : ((l[k] : Int)).tdiv 16 = x16 := by rw [Int.tdiv_eq_ediv_of_nonneg (by omega), hx16]
              rw [← hx16] at hr1 hr2
              have hl255 : l[k] < 256 := by
                have hmm : l[k] ∈ M'.pages 0 := by rw [← HL.out]; exact List.getElem_mem hkl
                exact (Mm.mem_pages.1 hmm).1
              have hxr : 0 ≤ x16 := by omega
              have hxs : x16 ≤ 15 := by omega
              obtain ⟨lst, hlst⟩ : ∃ x, x = lastOf (-1) (l.take k) := ⟨_, rfl⟩
              obtain ⟨rn, hrn⟩ : ∃ x, x = runs (-1) (l.take k) := ⟨_, rfl⟩
              rw [← hlst] at hr1 hlg
              rw [← hrn] at hr1 hrl
              rw [← hlst, ← hrn]
              have HR1 := Lib.hid hr1
              have HR2 := Lib.hid hr2
              have HX := Lib.hid hx16
              clear hr1 hr2 hlst hrn hx16
              by_cases hne : x16 = lst
              · subst hne
                go_wp2
                go_round
                case rel => exact ⟨k + 1, by omega, by go_num, by rw [HR1.out]; simp, by rw [HR2.out]⟩
                case measure => simp [intOf]; omega
              · have hne' : (x16 != lst) = true := by simpa using hne
                have HNE := Lib.hid hne
                clear hne
                go_wp2
                go_round
                case rel => exact ⟨k + 1, by omega, by go_num, by rw [HR1.out, if_pos HNE.out]; go_num, by rw [HR2.out]⟩
                case measure => simp [intOf]; omega
            · obtain rfl : k = l.length := by omega
              have hR := HR.out
              rw [List.take_length] at hrl ⊢
              have hl40 : ((nfree M'.R M'.n : Int) != 40 - (1 + (runs (-1) l : Int))) = false := by simp; omega
              have hrr : (runs (-1) l : Int) ≤ 40 := by omega
              have hrr2 : 0 ≤ (runs (-1) l : Int) := by omega
              clear hR
              go_wp2_with fail
              refine (left_any HM6.out).mono ?_
              rintro e w8 ⟨rfl, hs8⟩
              have HM8 := Lib.hid (HM6.out.same0 hs8)
              have hs9 := hs7.trans (hs8.mono (fun _ _ h => h.elim))
              clear HM6 hs8 hs7
              go_wp2
              go_round
              case rel => exact ⟨i + 1, by omega, by omega, by go_num, M', T', HM8.out, HT'.out, HN'.out, hs9⟩
              case measure => simp [intOf]; omega
        · have hdb : (d % 4 == 3) = false := by simpa using hd
          obtain ⟨c0, c1, c2, c3⟩ := hact.kept hsi (fun h => by omega)
          have hsd := hsi.drew
          have hMd := hMi.same0 ((Same.refl _ _).drew)
          clear hd hact
          go_wp2_with fail
          go_still_tail 17, (by kernel_rfl)
          go_wp2_with fail
          refine (map_any hMd 0 p q K hpp).mono ?_
          rintro e w5 ⟨rfl, hM5, hs5⟩
          have HST5 := HST.out _ _ hM5 HMT.out (hsd.trans (hs5.mono (fun k _ h => by omega)))
          clear HUT HMT HST hM5 hs5 hsi hMi c0 c1 c2 c3 hw4 hsd hMd
          generalize (M.map 0 p q K).1 = M' at HST5
          generalize (M.map 0 p q K).2 = u1
          obtain ⟨T', hT', hn'⟩ := HST5.out.2.1
          have hck := hT'.check0
          have hruns := hT'.runs.trans hn'
          rw [show ((0 : Nat) : Int) = 0 from rfl] at hruns
          have HN' := Lib.hid hn'
          have HT' := Lib.hid hT'
          have HCK := Lib.hid hck
          clear hT' hn' hck
          go_wp2_with fail
          refine (pages_is HST5.out.1 0 HCK.out).mono ?_
          rintro e w6 ⟨sa, scap, rfl, hJ, hg7, hs6⟩
          have hM6 := HST5.out.1.same0 hs6
          have hs7 := HST5.out.2.2.trans (hs6.mono (fun _ _ h => h.elim))
          have hpl := M'.pages_len 0
          obtain ⟨l, hl⟩ : ∃ l, l = M'.pages 0 := ⟨_, rfl⟩
          rw [← hl] at hJ hruns hpl ⊢
          have HL := Lib.hid hl
          have HJ := Lib.hid hJ
          have HR := Lib.hid hruns
          have HM6 := Lib.hid hM6
          clear hl hJ hg7 hM6 hruns hs6
          go_wp2
          go_loop [11, 12, 13] (fun v11 v12 v13 => ∃ k : Nat, k ≤ l.length ∧ v13 = .int .i64 k ∧ v11 = .int .i64 (1 + runs (-1) (l.take k)) ∧ v12 = .int .i64 (lastOf (-1) (l.take k))) (fun _ _ v13 => l.length - (intOf v13).toNat)
          case atStart => exact ⟨0, by omega, rfl, rfl, rfl⟩
          case round =>
            obtain ⟨k, hk, rfl, rfl, rfl⟩ := hrel
            have hrl := runs_le (l.take k) (-1)
            have hrl2 : (l.take k).length ≤ k := List.length_take_le _ _
            by_cases hkl : k < l.length
            · have hkl' : (k : Int) < l.length := by omega
              obtain ⟨g, rcap, hsl, hcell⟩ : ∃ g rcap, Value.slice sa l.length scap = .slice (some ⟨g, 0, none⟩) l.length rcap ∧ w6.cell? ⟨g, k, none⟩ = some (.int .i64 (l[k] : Int)) := by
                rcases HJ.out with ⟨_, h0⟩ | ⟨g, c2, h1, h2, h3⟩
                · rw [h0] at hkl; simp at hkl
                · exact ⟨g, c2, h1, h3 k hkl⟩
              cases hsl
              obtain ⟨hr1, hr2⟩ := runs_take l k hkl
              have hlg := lastOf_ge (l.take k) (-1) (by omega)
              obtain ⟨x16, hx16⟩ : ∃ x : Int, x = (l[k] : Int) / 16 := ⟨_, rfl⟩
              have hd16 : ((l[k] : Int)).tdiv 16 = x16 := by rw [Int.tdiv_eq_ediv_of_nonneg (by omega), hx16]
              rw [← hx16] at hr1 hr2
              have hl255 : l[k] < 256 := by
                have hmm : l[k] ∈ M'.pages 0 := by rw [← HL.out]; exact List.getElem_mem hkl
                exact (Mm.mem_pages.1 hmm).1
              have hxr : 0 ≤ x16 := by omega
              have hxs : x16 ≤ 15 := by omega
              obtain ⟨lst, hlst⟩ : ∃ x, x = lastOf (-1) (l.take k) := ⟨_, rfl⟩
              obtain ⟨rn, hrn⟩ : ∃ x, x = runs (-1) (l.take k) := ⟨_, rfl⟩
              rw [← hlst] at hr1 hlg
              rw [← hrn] at hr1 hrl
              rw [← hlst, ← hrn]
              have HR1 := Lib.hid hr1
              have HR2 := Lib.hid hr2
              have HX := Lib.hid hx16
              clear hr1 hr2 hlst hrn hx16
              by_cases hne : x16 = lst
              · subst hne
                go_wp2
                go_round
                case rel => exact ⟨k + 1, by omega, by go_num, by rw [HR1.out]; simp, by rw [HR2.out]⟩
                case measure => simp [intOf]; omega
              · have hne' : (x16 != lst) = true := by simpa using hne
                have HNE := Lib.hid hne
                clear hne
                go_wp2
                go_round
                case rel => exact ⟨k + 1, by omega, by go_num, by rw [HR1.out, if_pos HNE.out]; go_num, by rw [HR2.out]⟩
                case measure => simp [intOf]; omega
            · obtain rfl : k = l.length := by omega
              have hR := HR.out
              rw [List.take_length] at hrl ⊢
              have hl40 : ((nfree M'.R M'.n : Int) != 40 - (1 + (runs (-1) l : Int))) = false := by simp; omega
              have hrr : (runs (-1) l : Int) ≤ 40 := by omega
              have hrr2 : 0 ≤ (runs (-1) l : Int) := by omega
              clear hR
              go_wp2_with fail
              refine (left_any HM6.out).mono ?_
              rintro e w8 ⟨rfl, hs8⟩
              have HM8 := Lib.hid (HM6.out.same0 hs8)
              have hs9 := hs7.trans (hs8.mono (fun _ _ h => h.elim))
              clear HM6 hs8 hs7
              go_wp2
              go_round
              case rel => exact ⟨i + 1, by omega, by omega, by go_num, M', T', HM8.out, HT'.out, HN'.out, hs9⟩
              case measure => simp [intOf]; omega
    · have hlt : i < len → 60 ≤ i := by omega
      have hs9 : Same (fun _ => False) w wr := hsi.mono (fun k h h' => by omega)
      clear hik hMi hTi hsi hn
      rcases Nat.lt_or_ge i len with hl | hl
      all_goals
        go_wp2
        go_ret
        exact ⟨rfl, hs9⟩
end Go.Proofs.Ytlbgnmcjdmdjpaa
