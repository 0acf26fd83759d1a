/- The walk of PtableDoes. Conditions: the arguments' form. -/
import Derived.Test.YtlbgnmcjdmdjpaaRp
import Derived.Test.YtlbgnmcjdmdjpaaTw
import Derived.Test.YtlbgnmcjdmdjpaaRq
import Derived.Test.YtlbgnmcjdmdjpaaCo
namespace Go.Proofs.Ytlbgnmcjdmdjpaa
open Go.RowKit Go.Shelf
attribute [local go_sem] Oper.semAt_some

/-- Both memories, the one or the other one of them already mapped; an act's cells; nothing older is another. -/
structure DoesD (f fb r rb rr : Nat) (M M' : Mm) (w0 : World) (xb : Nat) (p q K : Int) (b b' : Bool) (w : World) : Prop where
  mem : MemAt w f fb (if b then M' else M)
  ref : RefAt w r rb rr (if b' then M' else M)
  c1 : w.cell? ⟨xb, 1, none⟩ = some (.int .i64 p)
  c2 : w.cell? ⟨xb, 2, none⟩ = some (.int .i64 q)
  c3 : w.cell? ⟨xb, 3, none⟩ = some (.int .i64 K)
  same : Same (fun k => w0.heap.size ≤ k) w0 w
structure Apart (w0 : Nat) (f fb r rb rr : Nat) : Prop where
  l1 : w0 ≤ f
  l2 : w0 ≤ fb
  l3 : w0 ≤ r
  l4 : w0 ≤ rb
  l5 : w0 ≤ rr
  a1 : f ≠ rb
  a2 : f ≠ rr
  a3 : fb ≠ r
  a4 : fb ≠ rb
  a5 : fb ≠ rr
theorem does_one {f fb r rb rr : Nat} {M M' : Mm} {w0 : World} {xb : Nat} {p q K er : Int} (ha : Apart w0.heap.size f fb r rb rr) (hx : xb ≠ fb) (hm : M.map 0 p q K = (M', er)) (hp : In64 p) {b : Bool} {w : World} (h : DoesD f fb r rb rr M M' w0 xb p q K false b w) :
    Calls Try.prog 24 #[.pointer (some ⟨f, 0, none⟩), .int .i64 0, .int .i64 p, .int .i64 q, .int .i64 K] w fun e w' => e = .returned (.int .i64 er) ∧ DoesD f fb r rb rr M M' w0 xb p q K true b w' := by
  refine (map_any h.mem 0 p q K hp).mono ?_
  rintro e w' ⟨rfl, hM, hs⟩
  simp only [Bool.false_eq_true, if_false] at hM ⊢
  rw [hm] at hM ⊢
  have h1 := ha.a3
  have h2 := ha.a4
  have h3 := ha.a5
  have h4 := ha.l2
  exact ⟨rfl, hM, h.ref.same hs (by omega) (by omega) (by omega), hs.cell h.c1 (by simp; omega), hs.cell h.c2 (by simp; omega), hs.cell h.c3 (by simp; omega), h.same.trans (hs.mono (fun k _ e => by omega))⟩
theorem does_two {f fb r rb rr : Nat} {M M' : Mm} {w0 : World} {xb : Nat} {p q K er : Int} (ha : Apart w0.heap.size f fb r rb rr) (hx : xb ≠ rb ∧ xb ≠ rr) (hm : M.map 0 p q K = (M', er)) (hcl : M.Clean 0) {b : Bool} {w : World} (h : DoesD f fb r rb rr M M' w0 xb p q K b false w) :
    Calls Try.prog 30 #[.pointer (some ⟨r, 0, none⟩), .int .i64 0, .int .i64 p, .int .i64 q, .int .i64 K] w fun e w' => e = .returned (.int .i64 er) ∧ DoesD f fb r rb rr M M' w0 xb p q K b true w' := by
  refine (rmap_any h.ref 0 p q K (by simpa using hcl)).mono ?_
  rintro e w' ⟨rfl, hM, hs⟩
  simp only [Bool.false_eq_true, if_false] at hM ⊢
  rw [hm] at hM ⊢
  have h1 := ha.a1
  have h2 := ha.a2
  have h3 := ha.a4
  have h4 := ha.a5
  have h5 := ha.l4
  have h6 := ha.l5
  exact ⟨rfl, h.mem.same hs (by omega) (by omega), hM, hs.cell h.c1 (by simp; omega), hs.cell h.c2 (by simp; omega), hs.cell h.c3 (by simp; omega), h.same.trans (hs.mono (fun k _ e => by omega))⟩

attribute [local go_sem] PUpon

set_option maxHeartbeats 6400000 in
set_option maxRecDepth 16384 in
theorem does_walk (w : World) (n : Int) (a : Option Addr) (len cap : Nat) (hlen : len ≤ maxLen) (hrows : ActsAt w a len) (hnil : a = none → len = 0) :
    Calls Try.prog 6 #[.int .i64 n, .slice a len cap] w fun e w' => e = .returned (.bool true) ∧ Same (fun _ => False) w w' := by
  unfold maxLen at hlen
  have HROWS := Lib.hid hrows
  have HNIL := Lib.hid hnil
  clear hrows hnil
  by_cases hn : n < 1 ∨ 40 < n
  · have hb : (decide (n < 1) || decide (40 < n)) = true := by simpa using hn
    clear hn
    go_enter Try.func6, Try.ntmps6
    go_wp2_with fail
    refine (shown2 _).mono ?_
    rintro e w1 ⟨rfl, hs1⟩
    go_wp2
    all_goals
      go_ret
      exact ⟨rfl, hs1⟩
  obtain ⟨m, rfl⟩ := Int.eq_ofNat_of_zero_le (show 0 ≤ n by omega)
  have hm1 : 1 ≤ m := by omega
  have hm40 : m ≤ 40 := by omega
  have hb1 : decide ((m : Int) < 1) = false := by simp; omega
  have hb2 : decide (40 < (m : Int)) = false := by simp; omega
  clear hn
  go_enter Try.func6, Try.ntmps6
  go_wp2_with fail
  refine (shown2 _).mono ?_
  rintro e w1 ⟨rfl, hs1⟩
  go_wp2_with fail
  refine (new_any _ m hm1 (by omega)).mono ?_
  rintro e w2 ⟨f, fb, rfl, hf, hfb, hM, hs2⟩
  have hlt2 := hM.lt
  have hsz := hs1.size
  have hsz2 := hs2.size
  go_wp2_with fail
  refine (rnew_any _ m hm1 (by omega)).mono ?_
  rintro e w3 ⟨r, rb, rr, rfl, hr, hrb, hrr, hA, hs3⟩
  have hM3 := hM.same0 hs3
  go_wp2_with fail
  refine (root_any hM3).mono ?_
  rintro e w4 (⟨hall, -, -, -⟩ | ⟨k, hk, hz, hbel, rfl, hMA, hs4⟩)
  · have := hall 0 hm1
    simp at this
  obtain rfl : k = 0 := by
    rcases Nat.eq_zero_or_pos k with h | h
    · exact h
    · have := hbel 0 h; simp at this
  have hA4 := hA.same hs4 (by omega) (by omega) (by omega)
  clear hbel hz hk
  go_wp2_with fail
  refine (rroot_any hA4).mono ?_
  rintro e w5 (⟨hall, -, -, -⟩ | ⟨k, hk, hz, hbel, rfl, hA5, hs5⟩)
  · have := hall 0 hm1
    simp at this
  obtain rfl : k = 0 := by
    rcases Nat.eq_zero_or_pos k with h | h
    · exact h
    · have := hbel 0 h; simp at this
  have hM5 := hMA.same hs5 (by omega) (by omega)
  have hap : Apart w.heap.size f fb r rb rr := ⟨by omega, by omega, by omega, by omega, by omega, by omega, by omega, by omega, by omega, by omega⟩
  have hsw : Same (fun k => w.heap.size ≤ k) w w5 := ((((hs1.trans hs2).trans hs3).mono (fun _ _ h => h.elim)).trans (hs4.mono (fun k _ h => by omega))).trans (hs5.mono (fun k _ h => by omega))
  have HT := Lib.hid (Mm.tree_new m hm1 (by omega))
  have HM5 := Lib.hid hM5
  have HA5 := Lib.hid hA5
  have HAP := Lib.hid hap
  have hX : f < w2.heap.size ∧ fb < w2.heap.size ∧ w2.heap.size ≤ r ∧ w2.heap.size ≤ rb ∧ w2.heap.size ≤ rr := ⟨hlt2.1, hlt2.2, hr, hrb, hrr⟩
  clear hbel hz hk hM hA hM3 hA4 hMA hs1 hs2 hs3 hs4 hs5 hM5 hA5 hap hlt2
  go_wp2
  go_loopw [14] (fun v14 wr => ∃ i : Nat, i ≤ len ∧ i ≤ 80 ∧ v14 = .int .i64 i ∧ ∃ M T, MemAt wr f fb M ∧ RefAt wr r rb rr M ∧ M.Tree 0 T 1 ∧ M.n = m ∧ Same (fun k => w.heap.size ≤ k) w wr) (fun v14 _ => len - (intOf v14).toNat)
  case atStart => exact ⟨0, by omega, by omega, rfl, _, _, HM5.out, HA5.out, HT.out, rfl, hsw⟩
  case round =>
    obtain ⟨i, hi1, hi2, rfl, M, T, hMi, hAi, hTi, hn, hsi⟩ := hrel
    by_cases hik : i < len ∧ i < 80
    · obtain ⟨hlt, hlt8⟩ := hik
      cases a with
      | none => exact absurd (HNIL.out rfl) (by omega)
      | some x =>
        obtain ⟨d, p, q, K, hact, hpp⟩ := HROWS.out.act rfl hlt
        have hblt := hact.lt
        obtain ⟨c0, c1, c2, c3⟩ := hact.kept hsi (fun h => by omega)
        have hw4 := wrap4 d
        have hd : d % 4 = 0 ∨ d % 4 = 1 ∨ d % 4 = 2 ∨ d % 4 = 3 := by omega
        have HD := Lib.hid hd
        have hltM := hMi.lt
        have hltA := hAi.lt
        have hxb : Same (fun _ => False) wr (wr.alloc (.cells #[.int .i64 d, .int .i64 p, .int .i64 q, .int .i64 K] 36)) := same_alloc _
        have HMx := Lib.hid (hMi.same0 hxb)
        have HAx := Lib.hid (hAi.same0 hxb)
        have HTI := Lib.hid hTi
        have HN := Lib.hid hn
        have hsx := hsi.trans (hxb.mono (fun _ _ h => h.elim))
        clear hact hd hMi hAi hTi hn hxb
        rcases HD.out with h | h | h | h
        all_goals rw [h] at hw4
        · have HDD := Lib.hid h
          clear h
          obtain ⟨⟨M', er⟩, hX2⟩ : ∃ x, x = M.map 0 p q K := ⟨_, rfl⟩
          have hmt := Mm.map_tree HTI.out p q K
          rw [show ((0 : Nat) : Int) = 0 from rfl, ← hX2] at hmt
          have hcl := HTI.out.clean
          rw [show ((0 : Nat) : Int) = 0 from rfl] at hcl
          have HMT := Lib.hid hmt
          have HX2 := Lib.hid hX2
          have HCL := Lib.hid hcl
          clear hmt hX2 hcl
          go_wp2_with fail
          refine wp_region_two (DoesD f fb r rb rr M M' w wr.heap.size p q K) 8 17 (by kernel_rfl) (by kernel_rfl) (by decide) (by decide) (by decide) (by decide) (by decide)
            ⟨HMx.out.same0 (Same.refl _ _).drew, HAx.out.same0 (Same.refl _ _).drew, by simp, by simp, by simp, hsx.drew⟩ ?_
          iterate 8 (
            refine wpTwo_stepK (fun K hK => ⟨rfl, ?_, ?_, ?_⟩)
            rotate_left
            · refine twoAt_other rfl rfl (fun b b' w' hD => ?_)
              have h1 := hD.c1
              have h2 := hD.c2
              have h3 := hD.c3
              go_simp
              exact rfl
            go_simp
            refine hK _ ?_
            clear hK K)
          refine wpTwo_stepK (fun K hK => ⟨rfl, ?_, ?_, ?_⟩)
          rotate_left
          · refine twoAt_one (fun b w' hD => ?_)
            go_simp
            exact does_one HAP.out (by omega) HX2.out.symm hpp hD
          go_simp
          refine hK _ ?_
          clear hK K
          iterate 8 (
            refine wpTwo_stepK (fun K hK => ⟨rfl, ?_, ?_, ?_⟩)
            rotate_left
            · refine twoAt_other rfl rfl (fun b b' w' hD => ?_)
              have h1 := hD.c1
              have h2 := hD.c2
              have h3 := hD.c3
              go_simp
              exact rfl
            go_simp
            refine hK _ ?_
            clear hK K)
          refine wpTwo_stepK (fun K hK => ⟨rfl, ?_, ?_, ?_⟩)
          rotate_left
          · refine twoAt_two rfl (fun b w' hD => ?_)
            go_simp
            exact does_two HAP.out (by omega) HX2.out.symm HCL.out hD
          go_simp
          refine hK _ ?_
          clear hK K
          iterate 1 (
            refine wpTwo_stepK (fun K hK => ⟨rfl, ?_, ?_, ?_⟩)
            rotate_left
            · refine twoAt_other rfl rfl (fun b b' w' hD => ?_)
              have h1 := hD.c1
              have h2 := hD.c2
              have h3 := hD.c3
              go_simp
              exact rfl
            go_simp
            refine hK _ ?_
            clear hK K)
          intro w6 hD
          have HBIG := Lib.hid (show MemAt w6 f fb M' ∧ RefAt w6 r rb rr M' ∧ (∃ T', M'.Tree 0 T' 1 ∧ M'.n = m) ∧ Same (fun k => w.heap.size ≤ k) w w6 from
            ⟨hD.mem, hD.ref, (HMT.out.elim fun T' h => ⟨T', h.1, h.2.trans HN.out⟩), hD.same⟩)
          clear hD HMT HX2 HCL HMx HAx HTI HN hsx hsi c0 c1 c2 c3
          have hmem := HBIG.out.1
          have href := HBIG.out.2.1
          obtain ⟨T', hT', hn'⟩ := HBIG.out.2.2.1
          have hck := hT'.check0
          have HT' := Lib.hid hT'
          have HN' := Lib.hid hn'
          have HCK := Lib.hid hck
          have hs6 := HBIG.out.2.2.2
          have hz6 := hmem.lt
          have hz6' := href.lt
          clear hT' hn' hck HBIG
          go_wp2_with fail
          refine (pages_is hmem 0 HCK.out).mono ?_
          rintro e w7 ⟨pa, pcap, rfl, hI, hgI, hs7⟩
          have HI := Lib.hid hI
          have hmem7 := hmem.same0 hs7
          have href7 := href.same0 hs7
          have hs67 := hs6.trans (hs7.mono (fun _ _ h => h.elim))
          clear hmem href hs6 hs7 hI
          go_wp2_with fail
          refine (rpages_is href7 0 HCK.out).mono ?_
          rintro e w8 ⟨qa, qcap, rfl, hJ, hgJ, hs8⟩
          have HI8 := Lib.hid (HI.out.same hs8 (fun _ _ h => h))
          have HJ := Lib.hid hJ
          have hmem8 := hmem7.same0 hs8
          have href8 := href7.same0 hs8
          have hs68 := hs67.trans (hs8.mono (fun _ _ h => h.elim))
          clear hmem7 href7 hs67 hs8 hJ
          go_wp2_with fail
          refine (ints_same HI8.out HJ.out).mono ?_
          rintro e w9 ⟨rfl, hs9⟩
          have hmem9 := hmem8.same0 hs9
          have href9 := href8.same0 hs9
          have hs69 := hs68.trans (hs9.mono (fun _ _ h => h.elim))
          clear hmem8 href8 hs68 hs9
          go_wp2_with fail
          refine (left_any hmem9).mono ?_
          rintro e w10 ⟨rfl, hs10⟩
          have hmem10 := hmem9.same0 hs10
          have href10 := href9.same0 hs10
          have hs70 := hs69.trans (hs10.mono (fun _ _ h => h.elim))
          clear hmem9 href9 hs69 hs10
          go_wp2_with fail
          refine (rleft_any href10).mono ?_
          rintro e w11 ⟨rfl, rfl⟩
          have HMEM := Lib.hid hmem10
          have HREF := Lib.hid href10
          clear hmem10 href10
          go_wp2
          go_loopw [30] (fun v30 wy => ∃ t : Nat, t ≤ m ∧ v30 = .int .i64 t ∧ Same (fun _ => False) w10 wy) (fun v30 _ => m - (intOf v30).toNat)
          case atStart => exact ⟨0, by omega, rfl, Same.refl _ _⟩
          case round =>
            obtain ⟨t, ht, rfl, hsy⟩ := hrel
            by_cases htm : t < m
            · have hti : (t : Int) < m := by omega
              go_wp2_with fail
              refine (read64_any (HMEM.out.same0 hsy) t).mono ?_
              rintro e w12 ⟨rfl, hs12⟩
              generalize (if M'.isUsed t = true then (0 : Int) else 10) = e1
              have hsz := hsy.trans hs12
              go_wp2_with fail
              refine (rread64_any (HREF.out.same0 hsz) t).mono ?_
              rintro e w13 ⟨rfl, rfl⟩
              generalize (if M'.isUsed t = true then (0 : Int) else 10) = e2
              generalize M'.whole t = W
              go_wp2
              go_round
              case rel => exact ⟨t + 1, by omega, by go_num, hsz⟩
              case measure => simp [intOf]; omega
            · obtain rfl : t = m := by omega
              go_wp2
              go_round
              case rel => exact ⟨i + 1, by omega, by omega, by go_num, M', T', HMEM.out.same0 hsy, HREF.out.same0 hsy, HT'.out, HN'.out, hs70.trans (hsy.mono (fun _ _ h => h.elim))⟩
              case measure => simp [intOf]; omega
        · have HDD := Lib.hid h
          clear h
          obtain ⟨⟨M', er⟩, hX2⟩ : ∃ x, x = M.map 0 p q K := ⟨_, rfl⟩
          have hmt := Mm.map_tree HTI.out p q K
          rw [show ((0 : Nat) : Int) = 0 from rfl, ← hX2] at hmt
          have hcl := HTI.out.clean
          rw [show ((0 : Nat) : Int) = 0 from rfl] at hcl
          have HMT := Lib.hid hmt
          have HX2 := Lib.hid hX2
          have HCL := Lib.hid hcl
          clear hmt hX2 hcl
          go_wp2_with fail
          refine wp_region_two (DoesD f fb r rb rr M M' w wr.heap.size p q K) 8 17 (by kernel_rfl) (by kernel_rfl) (by decide) (by decide) (by decide) (by decide) (by decide)
            ⟨HMx.out.same0 (Same.refl _ _).drew, HAx.out.same0 (Same.refl _ _).drew, by simp, by simp, by simp, hsx.drew⟩ ?_
          iterate 8 (
            refine wpTwo_stepK (fun K hK => ⟨rfl, ?_, ?_, ?_⟩)
            rotate_left
            · refine twoAt_other rfl rfl (fun b b' w' hD => ?_)
              have h1 := hD.c1
              have h2 := hD.c2
              have h3 := hD.c3
              go_simp
              exact rfl
            go_simp
            refine hK _ ?_
            clear hK K)
          refine wpTwo_stepK (fun K hK => ⟨rfl, ?_, ?_, ?_⟩)
          rotate_left
          · refine twoAt_one (fun b w' hD => ?_)
            go_simp
            exact does_one HAP.out (by omega) HX2.out.symm hpp hD
          go_simp
          refine hK _ ?_
          clear hK K
          iterate 8 (
            refine wpTwo_stepK (fun K hK => ⟨rfl, ?_, ?_, ?_⟩)
            rotate_left
            · refine twoAt_other rfl rfl (fun b b' w' hD => ?_)
              have h1 := hD.c1
              have h2 := hD.c2
              have h3 := hD.c3
              go_simp
              exact rfl
            go_simp
            refine hK _ ?_
            clear hK K)
          refine wpTwo_stepK (fun K hK => ⟨rfl, ?_, ?_, ?_⟩)
          rotate_left
          · refine twoAt_two rfl (fun b w' hD => ?_)
            go_simp
            exact does_two HAP.out (by omega) HX2.out.symm HCL.out hD
          go_simp
          refine hK _ ?_
          clear hK K
          iterate 1 (
            refine wpTwo_stepK (fun K hK => ⟨rfl, ?_, ?_, ?_⟩)
            rotate_left
            · refine twoAt_other rfl rfl (fun b b' w' hD => ?_)
              have h1 := hD.c1
              have h2 := hD.c2
              have h3 := hD.c3
              go_simp
              exact rfl
            go_simp
            refine hK _ ?_
            clear hK K)
          intro w6 hD
          have HBIG := Lib.hid (show MemAt w6 f fb M' ∧ RefAt w6 r rb rr M' ∧ (∃ T', M'.Tree 0 T' 1 ∧ M'.n = m) ∧ Same (fun k => w.heap.size ≤ k) w w6 from
            ⟨hD.mem, hD.ref, (HMT.out.elim fun T' h => ⟨T', h.1, h.2.trans HN.out⟩), hD.same⟩)
          clear hD HMT HX2 HCL HMx HAx HTI HN hsx hsi c0 c1 c2 c3
          have hmem := HBIG.out.1
          have href := HBIG.out.2.1
          obtain ⟨T', hT', hn'⟩ := HBIG.out.2.2.1
          have hck := hT'.check0
          have HT' := Lib.hid hT'
          have HN' := Lib.hid hn'
          have HCK := Lib.hid hck
          have hs6 := HBIG.out.2.2.2
          have hz6 := hmem.lt
          have hz6' := href.lt
          clear hT' hn' hck HBIG
          go_wp2_with fail
          refine (pages_is hmem 0 HCK.out).mono ?_
          rintro e w7 ⟨pa, pcap, rfl, hI, hgI, hs7⟩
          have HI := Lib.hid hI
          have hmem7 := hmem.same0 hs7
          have href7 := href.same0 hs7
          have hs67 := hs6.trans (hs7.mono (fun _ _ h => h.elim))
          clear hmem href hs6 hs7 hI
          go_wp2_with fail
          refine (rpages_is href7 0 HCK.out).mono ?_
          rintro e w8 ⟨qa, qcap, rfl, hJ, hgJ, hs8⟩
          have HI8 := Lib.hid (HI.out.same hs8 (fun _ _ h => h))
          have HJ := Lib.hid hJ
          have hmem8 := hmem7.same0 hs8
          have href8 := href7.same0 hs8
          have hs68 := hs67.trans (hs8.mono (fun _ _ h => h.elim))
          clear hmem7 href7 hs67 hs8 hJ
          go_wp2_with fail
          refine (ints_same HI8.out HJ.out).mono ?_
          rintro e w9 ⟨rfl, hs9⟩
          have hmem9 := hmem8.same0 hs9
          have href9 := href8.same0 hs9
          have hs69 := hs68.trans (hs9.mono (fun _ _ h => h.elim))
          clear hmem8 href8 hs68 hs9
          go_wp2_with fail
          refine (left_any hmem9).mono ?_
          rintro e w10 ⟨rfl, hs10⟩
          have hmem10 := hmem9.same0 hs10
          have href10 := href9.same0 hs10
          have hs70 := hs69.trans (hs10.mono (fun _ _ h => h.elim))
          clear hmem9 href9 hs69 hs10
          go_wp2_with fail
          refine (rleft_any href10).mono ?_
          rintro e w11 ⟨rfl, rfl⟩
          have HMEM := Lib.hid hmem10
          have HREF := Lib.hid href10
          clear hmem10 href10
          go_wp2
          go_loopw [30] (fun v30 wy => ∃ t : Nat, t ≤ m ∧ v30 = .int .i64 t ∧ Same (fun _ => False) w10 wy) (fun v30 _ => m - (intOf v30).toNat)
          case atStart => exact ⟨0, by omega, rfl, Same.refl _ _⟩
          case round =>
            obtain ⟨t, ht, rfl, hsy⟩ := hrel
            by_cases htm : t < m
            · have hti : (t : Int) < m := by omega
              go_wp2_with fail
              refine (read64_any (HMEM.out.same0 hsy) t).mono ?_
              rintro e w12 ⟨rfl, hs12⟩
              generalize (if M'.isUsed t = true then (0 : Int) else 10) = e1
              have hsz := hsy.trans hs12
              go_wp2_with fail
              refine (rread64_any (HREF.out.same0 hsz) t).mono ?_
              rintro e w13 ⟨rfl, rfl⟩
              generalize (if M'.isUsed t = true then (0 : Int) else 10) = e2
              generalize M'.whole t = W
              go_wp2
              go_round
              case rel => exact ⟨t + 1, by omega, by go_num, hsz⟩
              case measure => simp [intOf]; omega
            · obtain rfl : t = m := by omega
              go_wp2
              go_round
              case rel => exact ⟨i + 1, by omega, by omega, by go_num, M', T', HMEM.out.same0 hsy, HREF.out.same0 hsy, HT'.out, HN'.out, hs70.trans (hsy.mono (fun _ _ h => h.elim))⟩
              case measure => simp [intOf]; omega
        · have HDD := Lib.hid h
          clear h
          obtain ⟨⟨wa, wb, we⟩, hW⟩ : ∃ x, x = M.walk 0 p := ⟨_, rfl⟩
          have HW := Lib.hid hW
          obtain ⟨M', hMM⟩ : ∃ x, x = M := ⟨_, rfl⟩
          clear hW
          go_wp2_with fail
          refine (walk_any HMx.out 0 p hpp).mono ?_
          rintro e w5a ⟨rfl, hs5a⟩
          have x1 := hs5a.cell (a := ⟨wr.heap.size, 1, none⟩) (v := .int .i64 p) (by simp) (by simp)
          rw [← HW.out]
          go_wp2_with fail
          refine (rwalk_any (HAx.out.same0 hs5a) 0 p).mono ?_
          rintro e w6 ⟨rfl, hs5b⟩
          rw [← HW.out]
          have HBIG := Lib.hid (show MemAt w6 f fb M' ∧ RefAt w6 r rb rr M' ∧ (∃ T', M'.Tree 0 T' 1 ∧ M'.n = m) ∧ Same (fun k => w.heap.size ≤ k) w w6 from
            ⟨by rw [hMM]; exact (HMx.out.same0 hs5a).same0 hs5b, by rw [hMM]; exact (HAx.out.same0 hs5a).same0 hs5b, by rw [hMM]; exact ⟨T, HTI.out, HN.out⟩, hsx.trans ((hs5a.trans hs5b).mono (fun _ _ h => h.elim))⟩)
          clear HW HMx HAx HTI HN hsx hsi hMM hs5a hs5b c0 c1 c2 c3
          have hmem := HBIG.out.1
          have href := HBIG.out.2.1
          obtain ⟨T', hT', hn'⟩ := HBIG.out.2.2.1
          have hck := hT'.check0
          have HT' := Lib.hid hT'
          have HN' := Lib.hid hn'
          have HCK := Lib.hid hck
          have hs6 := HBIG.out.2.2.2
          have hz6 := hmem.lt
          have hz6' := href.lt
          clear hT' hn' hck HBIG
          go_wp2_with fail
          refine (pages_is hmem 0 HCK.out).mono ?_
          rintro e w7 ⟨pa, pcap, rfl, hI, hgI, hs7⟩
          have HI := Lib.hid hI
          have hmem7 := hmem.same0 hs7
          have href7 := href.same0 hs7
          have hs67 := hs6.trans (hs7.mono (fun _ _ h => h.elim))
          clear hmem href hs6 hs7 hI
          go_wp2_with fail
          refine (rpages_is href7 0 HCK.out).mono ?_
          rintro e w8 ⟨qa, qcap, rfl, hJ, hgJ, hs8⟩
          have HI8 := Lib.hid (HI.out.same hs8 (fun _ _ h => h))
          have HJ := Lib.hid hJ
          have hmem8 := hmem7.same0 hs8
          have href8 := href7.same0 hs8
          have hs68 := hs67.trans (hs8.mono (fun _ _ h => h.elim))
          clear hmem7 href7 hs67 hs8 hJ
          go_wp2_with fail
          refine (ints_same HI8.out HJ.out).mono ?_
          rintro e w9 ⟨rfl, hs9⟩
          have hmem9 := hmem8.same0 hs9
          have href9 := href8.same0 hs9
          have hs69 := hs68.trans (hs9.mono (fun _ _ h => h.elim))
          clear hmem8 href8 hs68 hs9
          go_wp2_with fail
          refine (left_any hmem9).mono ?_
          rintro e w10 ⟨rfl, hs10⟩
          have hmem10 := hmem9.same0 hs10
          have href10 := href9.same0 hs10
          have hs70 := hs69.trans (hs10.mono (fun _ _ h => h.elim))
          clear hmem9 href9 hs69 hs10
          go_wp2_with fail
          refine (rleft_any href10).mono ?_
          rintro e w11 ⟨rfl, rfl⟩
          have HMEM := Lib.hid hmem10
          have HREF := Lib.hid href10
          clear hmem10 href10
          go_wp2
          go_loopw [30] (fun v30 wy => ∃ t : Nat, t ≤ m ∧ v30 = .int .i64 t ∧ Same (fun _ => False) w10 wy) (fun v30 _ => m - (intOf v30).toNat)
          case atStart => exact ⟨0, by omega, rfl, Same.refl _ _⟩
          case round =>
            obtain ⟨t, ht, rfl, hsy⟩ := hrel
            by_cases htm : t < m
            · have hti : (t : Int) < m := by omega
              go_wp2_with fail
              refine (read64_any (HMEM.out.same0 hsy) t).mono ?_
              rintro e w12 ⟨rfl, hs12⟩
              generalize (if M'.isUsed t = true then (0 : Int) else 10) = e1
              have hsz := hsy.trans hs12
              go_wp2_with fail
              refine (rread64_any (HREF.out.same0 hsz) t).mono ?_
              rintro e w13 ⟨rfl, rfl⟩
              generalize (if M'.isUsed t = true then (0 : Int) else 10) = e2
              generalize M'.whole t = W
              go_wp2
              go_round
              case rel => exact ⟨t + 1, by omega, by go_num, hsz⟩
              case measure => simp [intOf]; omega
            · obtain rfl : t = m := by omega
              go_wp2
              go_round
              case rel => exact ⟨i + 1, by omega, by omega, by go_num, M', T', HMEM.out.same0 hsy, HREF.out.same0 hsy, HT'.out, HN'.out, hs70.trans (hsy.mono (fun _ _ h => h.elim))⟩
              case measure => simp [intOf]; omega
        · have HDD := Lib.hid h
          clear h
          obtain ⟨⟨M', ua, ue⟩, hW⟩ : ∃ x, x = M.unmap 0 p := ⟨_, rfl⟩
          have hut := Mm.unmap_tree HTI.out p
          rw [show ((0 : Nat) : Int) = 0 from rfl, ← hW] at hut
          have HUT := Lib.hid hut
          have HW := Lib.hid hW
          have hap := HAP.out
          clear hW hut
          have q1 := hap.a1
          have q2 := hap.a2
          have q3 := hap.a3
          have q4 := hap.a4
          have q5 := hap.a5
          have q6 := hap.l2
          have q7 := hap.l4
          have q8 := hap.l5
          go_wp2_with fail
          refine (unmap_any HMx.out 0 p hpp).mono ?_
          rintro e w5a ⟨rfl, hM5a, hs5a⟩
          rw [← HW.out] at hM5a ⊢
          have hA5a := HAx.out.same hs5a (by omega) (by omega) (by omega)
          have x1 := hs5a.cell (a := ⟨wr.heap.size, 1, none⟩) (v := .int .i64 p) (by simp) (by simp; omega)
          go_wp2_with fail
          refine (runmap_any hA5a 0 p).mono ?_
          rintro e w6 ⟨rfl, hA6, hs5b⟩
          rw [← HW.out] at hA6 ⊢
          have HBIG := Lib.hid (show MemAt w6 f fb M' ∧ RefAt w6 r rb rr M' ∧ (∃ T', M'.Tree 0 T' 1 ∧ M'.n = m) ∧ Same (fun k => w.heap.size ≤ k) w w6 from
            ⟨hM5a.same hs5b (by omega) (by omega), hA6, (HUT.out.elim fun T' h => ⟨T', h.1, h.2.trans HN.out⟩), (hsx.trans (hs5a.mono (fun k _ h => by omega))).trans (hs5b.mono (fun k _ h => by omega))⟩)
          clear HW HMx HAx HTI HN hsx hsi HUT hM5a hA5a hA6 hs5a hs5b c0 c1 c2 c3 q1 q2 q3 q4 q5 q6 q7 q8 hap
          have hmem := HBIG.out.1
          have href := HBIG.out.2.1
          obtain ⟨T', hT', hn'⟩ := HBIG.out.2.2.1
          have hck := hT'.check0
          have HT' := Lib.hid hT'
          have HN' := Lib.hid hn'
          have HCK := Lib.hid hck
          have hs6 := HBIG.out.2.2.2
          have hz6 := hmem.lt
          have hz6' := href.lt
          clear hT' hn' hck HBIG
          go_wp2_with fail
          refine (pages_is hmem 0 HCK.out).mono ?_
          rintro e w7 ⟨pa, pcap, rfl, hI, hgI, hs7⟩
          have HI := Lib.hid hI
          have hmem7 := hmem.same0 hs7
          have href7 := href.same0 hs7
          have hs67 := hs6.trans (hs7.mono (fun _ _ h => h.elim))
          clear hmem href hs6 hs7 hI
          go_wp2_with fail
          refine (rpages_is href7 0 HCK.out).mono ?_
          rintro e w8 ⟨qa, qcap, rfl, hJ, hgJ, hs8⟩
          have HI8 := Lib.hid (HI.out.same hs8 (fun _ _ h => h))
          have HJ := Lib.hid hJ
          have hmem8 := hmem7.same0 hs8
          have href8 := href7.same0 hs8
          have hs68 := hs67.trans (hs8.mono (fun _ _ h => h.elim))
          clear hmem7 href7 hs67 hs8 hJ
          go_wp2_with fail
          refine (ints_same HI8.out HJ.out).mono ?_
          rintro e w9 ⟨rfl, hs9⟩
          have hmem9 := hmem8.same0 hs9
          have href9 := href8.same0 hs9
          have hs69 := hs68.trans (hs9.mono (fun _ _ h => h.elim))
          clear hmem8 href8 hs68 hs9
          go_wp2_with fail
          refine (left_any hmem9).mono ?_
          rintro e w10 ⟨rfl, hs10⟩
          have hmem10 := hmem9.same0 hs10
          have href10 := href9.same0 hs10
          have hs70 := hs69.trans (hs10.mono (fun _ _ h => h.elim))
          clear hmem9 href9 hs69 hs10
          go_wp2_with fail
          refine (rleft_any href10).mono ?_
          rintro e w11 ⟨rfl, rfl⟩
          have HMEM := Lib.hid hmem10
          have HREF := Lib.hid href10
          clear hmem10 href10
          go_wp2
          go_loopw [30] (fun v30 wy => ∃ t : Nat, t ≤ m ∧ v30 = .int .i64 t ∧ Same (fun _ => False) w10 wy) (fun v30 _ => m - (intOf v30).toNat)
          case atStart => exact ⟨0, by omega, rfl, Same.refl _ _⟩
          case round =>
            obtain ⟨t, ht, rfl, hsy⟩ := hrel
            by_cases htm : t < m
            · have hti : (t : Int) < m := by omega
              go_wp2_with fail
              refine (read64_any (HMEM.out.same0 hsy) t).mono ?_
              rintro e w12 ⟨rfl, hs12⟩
              generalize (if M'.isUsed t = true then (0 : Int) else 10) = e1
              have hsz := hsy.trans hs12
              go_wp2_with fail
              refine (rread64_any (HREF.out.same0 hsz) t).mono ?_
              rintro e w13 ⟨rfl, rfl⟩
              generalize (if M'.isUsed t = true then (0 : Int) else 10) = e2
              generalize M'.whole t = W
              go_wp2
              go_round
              case rel => exact ⟨t + 1, by omega, by go_num, hsz⟩
              case measure => simp [intOf]; omega
            · obtain rfl : t = m := by omega
              go_wp2
              go_round
              case rel => exact ⟨i + 1, by omega, by omega, by go_num, M', T', HMEM.out.same0 hsy, HREF.out.same0 hsy, HT'.out, HN'.out, hs70.trans (hsy.mono (fun _ _ h => h.elim))⟩
              case measure => simp [intOf]; omega
    · have hlt : i < len → 80 ≤ i := by omega
      have hap := HAP.out
      have q1 := hap.a1
      have q2 := hap.a2
      have q3 := hap.a3
      have q4 := hap.a4
      have q5 := hap.a5
      have q6 := hap.l2
      have q7 := hap.l4
      have q8 := hap.l5
      obtain ⟨⟨M', de⟩, hW⟩ : ∃ x, x = M.drop 0 := ⟨_, rfl⟩
      have HW := Lib.hid hW
      clear hik hap hW hTi hn
      rcases Nat.lt_or_ge i len with hl | hl
      all_goals
        go_wp2_with fail
        refine (drop_any hMi 0).mono ?_
        rintro e w6 ⟨rfl, hM6, hs6⟩
        rw [← HW.out] at hM6 ⊢
        have hA6 := hAi.same hs6 (by omega) (by omega) (by omega)
        go_wp2_with fail
        refine (rdrop_any hA6 0).mono ?_
        rintro e w7 ⟨rfl, hA7, hs7⟩
        rw [← HW.out] at hA7 ⊢
        have hM7 := hM6.same hs7 (by omega) (by omega)
        go_wp2_with fail
        refine (left_any hM7).mono ?_
        rintro e w8 ⟨rfl, hs8⟩
        go_wp2_with fail
        refine (rleft_any (hA7.same0 hs8)).mono ?_
        rintro e w9 ⟨rfl, rfl⟩
        have hs9 : Same (fun _ => False) w w8 := (((hsi.trans (hs6.mono (fun k _ h => by omega))).trans (hs7.mono (T := fun k => w.heap.size ≤ k) (fun k _ h => by omega))).trans (hs8.mono (fun _ _ h => h.elim))).mono (fun k h h' => by omega)
        clear hM6 hA6 hM7 hA7 hs6 hs7 hs8 hMi hAi hsi
        go_wp2
        go_ret
        exact ⟨rfl, hs9⟩
end Go.Proofs.Ytlbgnmcjdmdjpaa
