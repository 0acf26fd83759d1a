/- The walk of CopyioBack. Conditions: the arguments' form. -/
import Derived.Test.YtlbgnmcjdmdjpaaCl
import Derived.Laws.DeepStrings4
import Derived.Laws.Small
namespace Go.Proofs.Ytlbgnmcjdmdjpaa
open Go.RowKit Go.Shelf
attribute [local go_sem] Oper.semAt_some

theorem chk_fun {M : Mm} {root a n r w : Int} {wr : Bool} (h1 : ChkR M root a n wr r) (h2 : ChkR M root a n wr w) : r = w := by
  rcases h1 with ⟨u1, e1⟩ | ⟨u1, b1, e1⟩ | ⟨u1, b1, c1, d1, e1⟩ | ⟨u1, x, k, ha, hn, hk, hx, h1⟩
  · rcases h2 with ⟨u2, e2⟩ | ⟨u2, b2, e2⟩ | ⟨u2, b2, c2, d2, e2⟩ | ⟨u2, y, l, hb, hm, hl, hy, h2⟩ <;> first | omega | (rw [u1] at u2; cases u2)
  · rcases h2 with ⟨u2, e2⟩ | ⟨u2, b2, e2⟩ | ⟨u2, b2, c2, d2, e2⟩ | ⟨u2, y, l, hb, hm, hl, hy, h2⟩ <;> first | omega | (exfalso; clear h2; omega) | (rw [u1] at u2; cases u2)
  · rcases h2 with ⟨u2, e2⟩ | ⟨u2, b2, e2⟩ | ⟨u2, b2, c2, d2, e2⟩ | ⟨u2, y, l, hb, hm, hl, hy, h2⟩ <;> first | omega | (exfalso; clear h2; omega) | (rw [u1] at u2; cases u2)
  · rcases h2 with ⟨u2, e2⟩ | ⟨u2, b2, e2⟩ | ⟨u2, b2, c2, d2, e2⟩ | ⟨u2, y, l, hb, hm, hl, hy, h2⟩
    · rw [u1] at u2; cases u2
    · omega
    · omega
    · obtain rfl : y = x := by omega
      obtain rfl : l = k := by omega
      rcases h1 with ⟨rfl, h1⟩ | ⟨rfl, i, hi1, hi2, hi⟩
      · rcases h2 with ⟨rfl, h2⟩ | ⟨rfl, i, hi1, hi2, hi⟩
        · rfl
        · exact absurd (h1 i hi1 hi2) hi
      · rcases h2 with ⟨rfl, h2⟩ | ⟨rfl, _⟩
        · exact absurd (h2 i hi1 hi2) hi
        · rfl
theorem inr_fun {M : Mm} {root a n e e' : Int} {s s' : ByteArray} (h : InR M root a n e s) (h' : InR M root a n e' s') : e' = e ∧ s' = s := by
  obtain rfl := chk_fun h.1 h'.1
  refine ⟨rfl, ?_⟩
  rcases h.2 with ⟨z, rfl⟩ | ⟨z, rfl⟩ <;> rcases h'.2 with ⟨z', rfl⟩ | ⟨z', rfl⟩ <;> first | rfl | omega
theorem chk_same {M M' : Mm} {root a n e : Int} {wr : Bool} (hu : M'.isUsed root = M.isUsed root) (hw : ∀ p, M'.walk root p = M.walk root p) (h : ChkR M' root a n wr e) : ChkR M root a n wr e := by
  have ho : ∀ i, M'.okB root wr i ↔ M.okB root wr i := fun i => by unfold Mm.okB; rw [hw]
  unfold ChkR at h ⊢
  rw [hu] at h
  simpa only [ho] using h
theorem vstr_one (M : Mm) (root : Int) (a : Nat) : M.vstr root a 1 = ⟨#[M.vb root a]⟩ := by
  unfold Mm.vstr Mm.vs; simp
theorem Mm.Tree.used {M : Mm} {r : Nat} {T : Nat → Option Nat} {cu : Nat} (ht : M.Tree r T cu) : M.isUsed r = true := Mm.isUsed_nat ht.rn (by have := ht.rR; omega)
theorem back_law {M M' : Mm} {T : Nat → Option Nat} {cu : Nat} (ht : M.Tree 0 T cu) {addr other e g h : Int} {s was got is_ : ByteArray}
    (h1 : InR M 0 other 1 e was) (h2 : ChkR M 0 addr s.size true 0) (ho : OutR M M' 0 T addr.toNat (addr.toNat + s.size) s) (h3 : InR M' 0 addr s.size g got) (h4 : InR M' 0 other 1 h is_) :
    g = 0 ∧ got = s ∧ h = e ∧ (was = is_ ∨ addr ≤ other ∧ other < addr + s.size) ∧ 0 ≤ addr ∧ addr ≤ 16384 := by
  have hw : ∀ p, M'.walk 0 p = M.walk 0 p := fun p => ho.tab.walk ht p
  have hu : M'.isUsed 0 = M.isUsed 0 := by
    have a := (ho.tab.tree ht).used
    have b := ht.used
    rw [show ((0 : Nat) : Int) = 0 from rfl] at a b
    rw [a, b]
  obtain ⟨-, z0, z1, z2, z3, z4⟩ := chk_zero h2
  have hg : g = 0 := by
    rcases chk_pair (chk_same hu hw h3.1) h2 with ⟨a, b⟩ | ⟨a, b⟩ | ⟨a, b⟩ <;> omega
  subst hg
  have he : h = e := (chk_fun h1.1 (chk_same hu hw h4.1)).symm
  subst he
  have hv : ∀ i : Nat, (M.walk 0 ((i : Int) / 64)).2.2 = 0 → M'.vb 0 i = if addr.toNat ≤ i ∧ i < addr.toNat + s.size then (s.data.toList[i - addr.toNat]?).getD 0 else M.vb 0 i := fun i hi => ho.vb i hi
  refine ⟨rfl, ?_, rfl, ?_, z0, by omega⟩
  · rcases h3.2 with ⟨z, _⟩ | ⟨_, rfl⟩
    · exact absurd rfl z
    · have hl : s.data.toList.length = s.size := by simp
      have : M'.vs 0 addr.toNat (s.size : Int).toNat = s.data.toList := by
        apply List.ext_getElem?
        intro j
        rw [Int.toNat_natCast]
        by_cases hj : j < s.size
        · have hok := z4 (addr.toNat + j) (by omega) (by omega)
          unfold Mm.vs
          rw [List.getElem?_map, List.getElem?_range hj, Option.map_some, hv _ hok.1, if_pos (by omega), show addr.toNat + j - addr.toNat = j by omega]
          rw [List.getElem?_eq_getElem (by omega)]
          rfl
        · rw [List.getElem?_eq_none (by rw [Mm.vs_len]; omega), List.getElem?_eq_none (by omega)]
      unfold Mm.vstr
      rw [this]
  · rcases h1.2 with ⟨z, rfl⟩ | ⟨z, rfl⟩
    · rcases h4.2 with ⟨_, rfl⟩ | ⟨z', _⟩
      · exact .inl rfl
      · exact absurd z' z
    · rcases h4.2 with ⟨z', _⟩ | ⟨_, rfl⟩
      · exact absurd z z'
      · by_cases hin : addr ≤ other ∧ other < addr + s.size
        · exact .inr hin
        · left
          subst z
          obtain ⟨-, y0, y1, y2, y3, y4⟩ := chk_zero h1.1
          have hok := y4 other.toNat (by omega) (by omega)
          rw [show (1 : Int).toNat = 1 from rfl, vstr_one, vstr_one, hv _ hok.1, if_neg (by omega)]

theorem text_any (w : World) (s : ByteArray) (hs : s.size ≤ 9223372036854775807) : Calls Try.prog 41 #[.string s] w fun e w' => ∃ t : ByteArray, e = .returned (.string t) ∧ t.size ≤ 4200 ∧ Same (fun _ => False) w w' := by
  go_enter Try.func41, Try.ntmps41
  go_wp2
  go_ret
  exact ⟨_, rfl, by rw [ByteArray.size_extract]; omega, Same.refl _ _⟩

set_option maxHeartbeats 3200000 in
set_option maxRecDepth 8192 in
theorem back_walk (w : World) (a : Option Addr) (len cap : Nat) (b : Option Addr) (len2 cap2 : Nat) (gp : Nat → Int) (gb : Nat → Bool) (hlen : len ≤ 9223372036854775807) (hlen2 : len2 ≤ 9223372036854775807)
    (ha : ∀ i, i < len → ∃ x, a = some x ∧ w.cell? (x.add i) = some (.int .i64 (gp i))) (hb : ∀ i, i < len2 → ∃ x, b = some x ∧ w.cell? (x.add i) = some (.bool (gb i)))
    (addr other : Int) (s : ByteArray) (hia : In64 addr) (hio : In64 other) (hss : s.size ≤ 9223372036854775807) :
    Calls Try.prog 9 #[.slice a len cap, .slice b len2 cap2, .int .i64 addr, .string s, .int .i64 other] w fun e w' => e = .returned (.bool true) ∧ Same (fun _ => False) w w' := by
  go_enter Try.func9, Try.ntmps9
  go_wp2_with fail
  refine (shown3 _).mono ?_
  rintro e w1 ⟨rfl, hs1⟩
  go_wp2_with fail
  refine (laid_any _ a len cap b len2 cap2 gp gb hlen hlen2 (fun i hi => ?_) (fun i hi => ?_)).mono ?_
  · obtain ⟨x, hx, hc⟩ := ha i hi
    exact ⟨x, hx, hs1.cell hc (by simp)⟩
  · obtain ⟨x, hx, hc⟩ := hb i hi
    exact ⟨x, hx, hs1.cell hc (by simp)⟩
  rintro e w2 ⟨f, fb, r, rfl, hf, hfb, hM, hL, hs2⟩
  have hs02 : Same (fun _ => False) w w2 := hs1.trans hs2
  have hsz1 := hs1.size
  generalize laidN _ _ = M at hM hL
  obtain ⟨T, ht, hd⟩ := hL.ex
  have hfo := hd.ok
  have hus := ht.used
  rw [show ((0 : Nat) : Int) = 0 from rfl] at hfo hus
  have HT := Lib.hid ht
  have HD := Lib.hid hd
  have HF := Lib.hid hfo
  have HU := Lib.hid hus
  have hsz2 : w.heap.size ≤ fb := by omega
  clear ha hb hlen hlen2 hs1 hs2 gp gb hf hfb hL ht hd hfo hsz1 hus
  go_wp2_with fail
  refine (text_any _ s hss).mono ?_
  rintro e w3 ⟨t, rfl, ht, hs3⟩
  have hs03 := hs02.trans hs3
  have hM3 := hM.same0 hs3
  clear hs02 hs3 hM hss
  have hts : t.size ≤ 9223372036854775807 := by omega
  have hi1 : In64 1 := by constructor <;> omega
  have C1 := Lib.hid (in_c hM3 0 other 1 hio hi1 HF.out)
  have HI1 := Lib.hid hi1
  clear hi1
  go_wp2_with fail
  refine C1.out.mono ?_
  rintro e w4 ⟨e1, was, rfl, h1, hs4⟩
  have hs04 := hs03.trans hs4
  have hM4 := hM3.same0 hs4
  have H1 := Lib.hid h1
  have C2 := out_c hM4 HT.out HD.out addr t hia hts
  rw [show ((0 : Nat) : Int) = 0 from rfl] at C2
  have C2 := Lib.hid C2
  clear hs03 hs4 hM3 C1 h1 hM4
  go_wp2_with fail
  refine C2.out.mono ?_
  rintro e w5 ⟨f5, M', rfl, h2, hM5, h2', hs5⟩
  have hs05 : Same (fun _ => False) w w5 := hs04.trans' hs5 (fun b hb hbw => by omega)
  have H2 := Lib.hid h2
  have H2' := Lib.hid h2'
  have hfo' : FramesOk M' 0 := by
    rcases h2' with ⟨_, rfl⟩ | ⟨_, _, ho⟩
    · exact HF.out
    · have := (HD.out.same ho.tab HT.out).ok
      exact this
  have hit : In64 t.size := by constructor <;> omega
  have C3 := Lib.hid (in_c hM5 0 addr t.size hia hit hfo')
  have HF' := Lib.hid hfo'
  clear hs04 hs5 C2 h2 h2' hfo' hit
  go_wp2_with fail
  refine C3.out.mono ?_
  rintro e w6 ⟨g, got, rfl, h3, hs6⟩
  have hs06 := hs05.trans hs6
  have hM6 := hM5.same0 hs6
  have H3 := Lib.hid h3
  have C4 := Lib.hid (in_c hM6 0 other 1 hio HI1.out HF'.out)
  clear hs05 hs6 hM5 h3 C3
  go_wp2_with fail
  refine C4.out.mono ?_
  rintro e w7 ⟨h, is_, rfl, h4, hs7⟩
  have hs07 := hs06.trans hs7
  have H4 := Lib.hid h4
  clear hs06 hs7 h4 C4 hM6
  rcases H2'.out with ⟨hf5, hMM⟩ | ⟨rfl, h0, ho⟩
  · have h4 := H4.out
    rw [hMM] at h4
    obtain ⟨rfl, rfl⟩ := inr_fun H1.out h4
    have h5 : f5 = 2 ∨ f5 = 30 := by
      rcases H2.out with ⟨u, _⟩ | ⟨_, _, h⟩ | ⟨_, _, _, _, h⟩ | ⟨_, x, k, _, _, _, _, h⟩
      · rw [HU.out] at u; cases u
      · exact .inl h
      · exact .inr h
      · rcases h with ⟨h, _⟩ | ⟨h, _⟩
        · exact absurd h hf5
        · exact .inr h
    clear h4 hf5 hMM H1 H2 H2' H3 H4 HF HF' HD HT HU
    rcases h5 with rfl | rfl
    all_goals
      go_wp2
      go_ret
      exact ⟨rfl, hs07⟩
  · obtain ⟨rfl, rfl, rfl, hc, z0, z1⟩ := back_law HT.out H1.out H2.out ho H3.out H4.out
    clear ho H1 H2 H2' H3 H4 HF HF' HD HT HU
    by_cases hw : was = is_
    · subst hw
      go_wp2
      go_ret
      exact ⟨rfl, hs07⟩
    · obtain ⟨y0, y1⟩ := hc.resolve_left hw
      clear hc
      go_wp2
      all_goals
        go_ret
        exact ⟨rfl, hs07⟩
end Go.Proofs.Ytlbgnmcjdmdjpaa
