/- The walk of PtableEmpty. Conditions: the arguments' form. -/
import Derived.Test.YtlbgnmcjdmdjpaaFl
namespace Go.Proofs.Ytlbgnmcjdmdjpaa
open Go.RowKit Go.Shelf
attribute [local go_sem] Oper.semAt_some

theorem Mm.Tree.bare {M : Mm} {r : Nat} {T : Nat → Option Nat} (h : M.Tree r T) (hz : ∀ q, q < 256 → (M.lk r q).1 = 0) : nfree M.R M.n + 1 = M.n := by
  have hT : ∀ i, T i = none := by
    intro i
    cases hi : T i with
    | none => rfl
    | some k =>
      obtain ⟨j, hj, hne⟩ := h.ne i k hi
      have h16 := (h.tb i k hi).1
      have := hz (16 * i + j) (by omega)
      rw [Mm.lk_tree h (by omega), show (16 * i + j) / 16 = i by omega, show (16 * i + j) % 16 = j by omega, hi] at this
      exact absurd this hne
  have : tcnt T 16 = 0 := by
    have := tcnt_congr (T := T) (T' := fun _ => none) 16 (fun i _ => by rw [hT i])
    rw [this]; rfl
  have := h.cnt
  omega
theorem Mm.pages_nodup (M : Mm) (r : Int) : (M.pages r).Nodup := List.Nodup.sublist List.filter_sublist List.nodup_range
theorem drop_mem {l : List Nat} (hn : l.Nodup) {i : Nat} (hi : i < l.length) (q : Nat) : q ∈ l.drop (i + 1) ↔ q ∈ l.drop i ∧ q ≠ l[i] := by
  have h1 := List.drop_eq_getElem_cons hi
  have h2 : (l.drop i).Nodup := List.Nodup.sublist (List.drop_sublist i l) hn
  rw [h1] at h2 ⊢
  rw [List.nodup_cons] at h2
  rw [List.mem_cons]
  constructor
  · intro h; exact ⟨.inr h, fun e => h2.1 (e ▸ h)⟩
  · rintro ⟨h | h, hne⟩
    · exact absurd h hne
    · exact h
/-- What Empty asks of a step of unmapping. -/
theorem Mm.empty_law {M : Mm} {T : Nat → Option Nat} (h : M.Tree 0 T) {l : List Nat} (hn : l.Nodup) {i : Nat} (hi : i < l.length) (hl : ∀ q ∈ l, q < 256) (hk : ∀ q, q < 256 → ((M.lk 0 q).1 ≠ 0 ↔ q ∈ l.drop i)) :
    (M.unmap 0 (l[i] : Int)).2.2 = 0 ∧ (∃ T', (M.unmap 0 (l[i] : Int)).1.Tree 0 T') ∧ (M.unmap 0 (l[i] : Int)).1.n = M.n ∧ ∀ q, q < 256 → (((M.unmap 0 (l[i] : Int)).1.lk 0 q).1 ≠ 0 ↔ q ∈ l.drop (i + 1)) := by
  have := Mm.unmap_law h (l[i] : Int)
  rw [show ((0 : Nat) : Int) = 0 from rfl] at this
  have h256 := hl l[i] (List.getElem_mem hi)
  have hmem : l[i] ∈ l.drop i := by rw [List.drop_eq_getElem_cons hi]; exact List.mem_cons_self
  rcases this with ⟨_, _, h3⟩ | ⟨h1, p, hp, hp2, h3, _, h4, h5, h6, h7⟩
  · exact absurd (h3 l[i] rfl h256) ((hk _ h256).2 hmem)
  · obtain rfl : l[i] = p := by omega
    refine ⟨h1, h4, h5, fun q hq => ?_⟩
    rw [drop_mem hn hi]
    by_cases e : q = l[i]
    · rw [e, h6]; simp
    · rw [h7 q hq e, hk q hq]
      simp [e]

set_option maxHeartbeats 3200000 in
set_option maxRecDepth 8192 in
theorem empty_walk (w : World) (a : Option Addr) (len cap : Nat) (hlen : len ≤ maxLen) (hrows : ActsAt w a len) (hnil : a = none → len = 0) :
    Calls Try.prog 7 #[.slice a len cap] w fun e w' => e = .returned (.bool true) ∧ Same (fun _ => False) w w' := by
  unfold maxLen at hlen
  have HROWS := Lib.hid hrows
  have HNIL := Lib.hid hnil
  clear hrows hnil
  go_enter Try.func7, Try.ntmps7
  go_wp2_with fail
  refine (shown2 _).mono ?_
  rintro e w1 ⟨rfl, hs1⟩
  go_wp2_with fail
  refine (new_any _ 60 (by omega) (by omega)).mono ?_
  rintro e w2 ⟨f, fb, rfl, hf, hfb, hM, hs2⟩
  go_wp2_with fail
  refine (root_any hM).mono ?_
  rintro e w3 (⟨hall, -, -, -⟩ | ⟨k, hk, hz, hbel, rfl, hMA, hs3⟩)
  · have := hall 0 (by simp)
    simp at this
  obtain rfl : k = 0 := by
    rcases Nat.eq_zero_or_pos k with h | h
    · exact h
    · have := hbel 0 h; simp at this
  clear hbel hz hk hM
  have hsz := hs1.size
  have hsw : Same (fun k => w.heap.size ≤ k) w w3 := ((hs1.trans hs2).mono (fun _ _ h => h.elim)).trans (hs3.mono (fun k _ h => by omega))
  have HT := Lib.hid (Mm.tree_new 60 (by omega) (by omega))
  have HMA := Lib.hid hMA
  clear hMA hs1 hs2 hs3
  go_wp2
  go_loopw [8] (fun v8 wr => ∃ i : Nat, i ≤ len ∧ i ≤ 60 ∧ v8 = .int .i64 i ∧ ∃ M T, MemAt wr f fb M ∧ M.Tree 0 T ∧ M.n = 60 ∧ Same (fun k => w.heap.size ≤ k) w wr) (fun v8 _ => len - (intOf v8).toNat)
  case atStart => exact ⟨0, by omega, by omega, rfl, _, _, HMA.out, HT.out, rfl, hsw⟩
  case round =>
    obtain ⟨i, hi1, hi2, rfl, M, T, hMi, hTi, hn, hsi⟩ := hrel
    by_cases hik : i < len ∧ i < 60
    · obtain ⟨hlt, hlt8⟩ := hik
      cases a with
      | none => exact absurd (HNIL.out rfl) (by omega)
      | some x =>
        obtain ⟨d, p, q, K, hact, hpp⟩ := HROWS.out.act rfl hlt
        have hblt := hact.lt
        have hmt := Mm.map_tree hTi p q K
        rw [show ((0 : Nat) : Int) = 0 from rfl] at hmt
        have HMT := Lib.hid hmt
        have HN := Lib.hid hn
        obtain ⟨c0, c1, c2, c3⟩ := hact.kept hsi (fun h => by omega)
        have hsd := hsi.drew
        have hMd := hMi.same0 ((Same.refl _ _).drew)
        clear hn hTi hmt hact hMi
        go_wp2_with fail
        go_still_tail 17, (by kernel_rfl)
        go_wp2_with fail
        refine (map_any hMd 0 p q K hpp).mono ?_
        rintro e w5 ⟨rfl, hM5, hs5⟩
        have HM5 := Lib.hid hM5
        have hs6 := hsd.trans (hs5.mono (T := fun k => w.heap.size ≤ k) (fun k _ h => by omega))
        clear hM5 hs5 hsi c0 c1 c2 c3 hsd hMd
        generalize (M.map 0 p q K).2 = u1
        go_wp2
        go_round
        case rel =>
          obtain ⟨T', hT', hn'⟩ := HMT.out
          exact ⟨i + 1, by omega, by omega, by go_num, _, T', HM5.out, hT', hn'.trans HN.out, hs6⟩
        case measure => simp [intOf]; omega
    · have hlt : i < len → 60 ≤ i := by omega
      have hck := hTi.check0
      have hmb := hMi.lt.2
      have HTI := Lib.hid hTi
      have HN := Lib.hid hn
      have HCK := Lib.hid hck
      have hpl := M.pages_len 0
      have hnd := M.pages_nodup 0
      have hmem : ∀ q, q ∈ M.pages 0 ↔ q < 256 ∧ (M.lk 0 q).1 ≠ 0 := fun q => Mm.mem_pages
      have HND := Lib.hid hnd
      have HMEM := Lib.hid hmem
      clear hik hTi hn hck hnd hmem
      rcases Nat.lt_or_ge i len with hl | hl
      all_goals
        go_wp2_with fail
        refine (pages_is hMi 0 HCK.out).mono ?_
        rintro e w6 ⟨sa, scap, rfl, hJ, hg6, hs6⟩
        have hM6 := hMi.same0 hs6
        have hs7 := hsi.trans (hs6.mono (fun _ _ h => h.elim))
        obtain ⟨l, hll⟩ : ∃ l, l = M.pages 0 := ⟨_, rfl⟩
        have hmem := HMEM.out
        have hnd := HND.out
        rw [← hll] at hJ hg6 hpl hmem hnd ⊢
        have HMEM2 := Lib.hid hmem
        have HND2 := Lib.hid hnd
        have HL := Lib.hid hll
        have HJ := Lib.hid hJ
        have HM6 := Lib.hid hM6
        clear hll hJ hM6 hs6 hmem hnd hsi hMi HND HMEM
        go_wp2
        go_loopw [11] (fun v11 wx => ∃ k : Nat, k ≤ l.length ∧ v11 = .int .i64 k ∧ ∃ M' T', MemAt wx f fb M' ∧ M'.Tree 0 T' ∧ M'.n = 60 ∧ Same (· = fb) w6 wx ∧ Same (fun k => w.heap.size ≤ k) w wx ∧ ∀ q, q < 256 → ((M'.lk 0 q).1 ≠ 0 ↔ q ∈ l.drop k)) (fun v11 _ => l.length - (intOf v11).toNat)
        case atStart => exact ⟨0, by omega, rfl, M, T, HM6.out, HTI.out, HN.out, Same.refl _ _, hs7, fun q hq => by rw [List.drop_zero, HMEM2.out q]; simp [hq]⟩
        case round =>
          obtain ⟨k, hk, rfl, M', T', hMx, hTx, hnx, hsx, hsy, hlk⟩ := hrel
          by_cases hkl : k < l.length
          · have hkl' : (k : Int) < l.length := by omega
            obtain ⟨g, rcap, hsl, hcell⟩ : ∃ g rcap, Value.slice sa l.length scap = .slice (some ⟨g, 0, none⟩) l.length rcap ∧ w6.cell? ⟨g, k, none⟩ = some (.int .i64 (l[k] : Int)) := by
              rcases HJ.out with ⟨_, h0⟩ | ⟨g, c2, h1, h2, h3⟩
              · rw [h0] at hkl; simp at hkl
              · exact ⟨g, c2, h1, h3 k hkl⟩
            cases hsl
            have hgg := hg6 g rfl
            have hcx := hsx.cell hcell (by simp; omega)
            obtain ⟨he, ht, hn2, hlk2⟩ := Mm.empty_law hTx HND2.out hkl (fun q hq => ((HMEM2.out q).1 hq).1) hlk
            have hl255 : l[k] < 256 := ((HMEM2.out _).1 (List.getElem_mem hkl)).1
            have HT2 := Lib.hid ht
            have HN2 := Lib.hid (hn2.trans hnx)
            have HLK2 := Lib.hid hlk2
            have HE := Lib.hid he
            clear hTx hnx hlk ht hn2 hlk2 he hcell
            go_wp2_with fail
            refine (unmap_any hMx 0 (l[k] : Int) (by unfold In64; omega)).mono ?_
            rintro e w7 ⟨rfl, hM7, hs8⟩
            rw [HE.out]
            have HM7 := Lib.hid hM7
            have hs9 := hsx.trans hs8
            have hs10 := hsy.trans (hs8.mono (T := fun k => w.heap.size ≤ k) (fun k _ h => by omega))
            clear hM7 hs8 hsx hsy hMx hcx
            generalize (M'.unmap 0 (l[k] : Int)).2.1 = u1
            go_wp2
            go_round
            case rel =>
              obtain ⟨T2, hT2⟩ := HT2.out
              exact ⟨k + 1, by omega, by go_num, _, T2, HM7.out, hT2, HN2.out, hs9, hs10, HLK2.out⟩
            case measure => simp [intOf]; omega
          · obtain rfl : k = l.length := by omega
            have hbare : nfree M'.R M'.n = 59 := by
              have := hTx.bare (fun q hq => by
                have := hlk q hq
                rw [List.drop_length] at this
                rw [show ((0 : Nat) : Int) = 0 from rfl]
                apply Classical.byContradiction
                intro h
                exact absurd (this.1 h) (by simp))
              omega
            have HTX := Lib.hid hTx
            have HNX := Lib.hid hnx
            have HB := Lib.hid hbare
            clear hTx hnx hlk hbare
            go_wp2_with fail
            refine (left_any hMx).mono ?_
            rintro e w7 ⟨rfl, hs8⟩
            rw [HB.out]
            have HM7 := Lib.hid (hMx.same0 hs8)
            have hs9 := hsy.trans (hs8.mono (T := fun k => w.heap.size ≤ k) (fun k _ h => h.elim))
            clear hMx hs8 hsy hsx
            go_wp2
            go_loopw [15] (fun v15 wr => ∃ j : Nat, j ≤ len ∧ j ≤ 60 ∧ v15 = .int .i64 j ∧ ∃ M T, MemAt wr f fb M ∧ M.Tree 0 T ∧ M.n = 60 ∧ Same (fun k => w.heap.size ≤ k) w wr) (fun v15 _ => len - (intOf v15).toNat)
            case atStart => exact ⟨0, by omega, by omega, rfl, _, _, HM7.out, HTX.out, HNX.out, hs9⟩
            case round =>
              obtain ⟨j, hj1, hj2, rfl, M3, T3, hM3, hT3, hn3, hs3⟩ := hrel
              by_cases hjk : j < len ∧ j < 60
              · obtain ⟨hlt, hlt8⟩ := hjk
                cases a with
                | none => exact absurd (HNIL.out rfl) (by omega)
                | some x =>
                  obtain ⟨d, p, q, K, hact, hpp⟩ := HROWS.out.act rfl hlt
                  have hblt := hact.lt
                  have hmt := Mm.map_tree hT3 p q K
                  rw [show ((0 : Nat) : Int) = 0 from rfl] at hmt
                  have HMT := Lib.hid hmt
                  have HN3 := Lib.hid hn3
                  obtain ⟨c0, c1, c2, c3⟩ := hact.kept hs3 (fun h => by omega)
                  have hsd := hs3.drew
                  have hMd := hM3.same0 ((Same.refl _ _).drew)
                  clear hn3 hT3 hmt hact hM3
                  go_wp2_with fail
                  go_still_tail 17, (by kernel_rfl)
                  go_wp2_with fail
                  refine (map_any hMd 0 p q K hpp).mono ?_
                  rintro e w5 ⟨rfl, hM5, hs5⟩
                  have HM5 := Lib.hid hM5
                  have hs6 := hsd.trans (hs5.mono (T := fun k => w.heap.size ≤ k) (fun k _ h => by omega))
                  clear hM5 hs5 hs3 c0 c1 c2 c3 hsd hMd
                  generalize (M3.map 0 p q K).2 = u1
                  go_wp2
                  go_round
                  case rel =>
                    obtain ⟨T', hT', hn'⟩ := HMT.out
                    exact ⟨j + 1, by omega, by omega, by go_num, _, T', HM5.out, hT', hn'.trans HN3.out, hs6⟩
                  case measure => simp [intOf]; omega
              · have hlt : j < len → 60 ≤ j := by omega
                obtain ⟨d1, d2, d3⟩ := Mm.drop_law hT3
                rw [show ((0 : Nat) : Int) = 0 from rfl] at d1 d2 d3
                have d4 : nfree (M3.drop 0).1.R (M3.drop 0).1.n = 60 := by rw [d2, d3, hn3]
                have D4 := Lib.hid d4
                have D1 := Lib.hid d1
                clear hjk hT3 hn3 d1 d2 d3 d4
                rcases Nat.lt_or_ge j len with hl3 | hl3
                all_goals try (exfalso; omega)
                all_goals
                  go_wp2_with fail
                  refine (drop_any hM3 0).mono ?_
                  rintro e w8 ⟨rfl, hM8, hs8⟩
                  rw [D1.out]
                  go_wp2_with fail
                  refine (left_any hM8).mono ?_
                  rintro e w9 ⟨rfl, hs10⟩
                  rw [D4.out]
                  have hs11 : Same (fun _ => False) w w9 := ((hs3.trans (hs8.mono (T := fun k => w.heap.size ≤ k) (fun k _ h => by omega))).trans (hs10.mono (fun _ _ h => h.elim))).mono (fun k h h' => by omega)
                  clear hM8 hs8 hs10 hs3 hM3
                  go_wp2
                  go_ret
                  exact ⟨rfl, hs11⟩
end Go.Proofs.Ytlbgnmcjdmdjpaa
