import Derived.Test.YtcllofffbmbmlaaO
namespace Go.Proofs.Ytcllofffbmbmlaa
open Go.RowKit Go.Shelf
attribute [local go_sem] Oper.semAt_some

/-- A row that one owns is a slice of its length. -/
theorem ownsRow_slice {w : World} {base : Nat} {e : TypeId} {size : Nat} {v : Value} {n : Nat} {xs : List Value} (h : w.ownsRow base e size v n xs) : ∃ a cap, v = .slice a n cap := by
  cases n with
  | zero => 
    rcases h.2 with ⟨rfl, _⟩ | ⟨g, cap, cur, rfl, _⟩
    · exact ⟨_, _, rfl⟩
    · exact ⟨_, _, rfl⟩
  | succ n => obtain ⟨g, cap, rfl, _⟩ := own_row_succ h; exact ⟨_, _, rfl⟩

theorem drop_sub {L : List Ent} {pid : Int} {e : Ent} {i : Nat} (hx : e ∈ dropTo L pid i) : e ∈ L := by
  induction i with
  | zero => exact hx
  | succ i ih =>
    simp only [dropTo] at hx
    split at hx
    · exact ih hx
    · exact ih (List.mem_filter.1 hx).1
theorem ent_mem {L : List Ent} (hk : Keyd L) {e : Ent} (he : e ∈ L) : ent L e.pid e.fd = some e := by
  obtain ⟨e', hx⟩ := find_mem (L := L) ⟨e, he, rfl, rfl⟩
  rw [hx]
  obtain ⟨h1, h2, h3⟩ := ent_some hx
  by_cases h : e' = e
  · rw [h]
  · exfalso
    have : ∀ (l : List Ent), Keyd l → e ∈ l → e' ∈ l → False := by
      intro l
      induction l with
      | nil => intro _ h; cases h
      | cons x r ih =>
        intro hk he he'
        have hk' := List.pairwise_cons.1 hk
        rcases List.mem_cons.1 he with h4 | h4
        · rcases List.mem_cons.1 he' with h5 | h5
          · exact h (h5.trans h4.symm)
          · exact hk'.1 _ h5 (h4 ▸ ⟨h2.symm, by omega⟩)
        · rcases List.mem_cons.1 he' with h5 | h5
          · exact hk'.1 _ h4 (h5 ▸ ⟨h2, by omega⟩)
          · exact ih hk'.2 h4 h5
    exact this L hk he h1

theorem mod40 (p : Int) : 0 ≤ (IntKind.u64.wrap p).tmod 40 ∧ (IntKind.u64.wrap p).tmod 40 < 40 := by
  have : IntKind.u64.wrap p = p % 2 ^ 64 := rfl
  rw [this, Int.tmod_eq_emod_of_nonneg (by omega)]
  omega

set_option maxHeartbeats 3200000 in
set_option maxRecDepth 8192 in
theorem gone_walk (w : World) (a : Option Addr) (len cap : Nat) (hlen : len ≤ maxLen) (hrows : ActsAt w a len) (hnil : a = none → len = 0) :
    Calls Try.prog 8 #[.slice a len cap] w fun e w' => e = .returned (.bool true) ∧ Same (fun _ => False) w w' := by
  unfold maxLen at hlen
  have HROWS := Lib.hid hrows
  have HNIL := Lib.hid hnil
  clear hrows hnil
  go_enter Try.func8, Try.ntmps8
  go_wp2_with fail
  refine (shown_any _).mono ?_
  rintro e w1 ⟨rfl, hs1⟩
  go_wp2_with fail
  refine (new_any _).mono ?_
  rintro e w2 ⟨f, m, rfl, hR2, hs2, hm2⟩
  have hs02 : Same (fun _ => False) w w2 := hs1.trans hs2
  have hsz2 := hs1.size
  have HR2 := Lib.hid hR2
  clear hR2
  go_wp2
  go_loopw [5] (fun v5 wr => ∃ i : Nat, i ≤ len ∧ i ≤ 80 ∧ v5 = .int .i64 i ∧ ∃ L al, Rep wr f m L al ∧ L.length ≤ 8 * i ∧ (∀ e ∈ L, 1 ≤ e.pid ∧ e.pid ≤ 40) ∧ Same (Own w2 m) w2 wr) (fun v5 _ => len - (intOf v5).toNat)
  case atStart => exact ⟨0, by omega, by omega, rfl, [], [], HR2.out, by simp, by simp, Same.refl _ _⟩
  case round =>
    obtain ⟨i, hi1, hi2, rfl, L, al, hRi, hM, hpp, hsi⟩ := hrel
    have HPP := Lib.hid hpp
    clear hpp
    by_cases hik : i < len ∧ i < 80
    · obtain ⟨hlt, hlt8⟩ := hik
      cases a with
      | none => exact absurd (HNIL.out rfl) (by omega)
      | some x =>
        obtain ⟨d, p, q, K, T, hact⟩ := HROWS.out.act rfl hlt
        have hblt := hact.lt
        obtain ⟨c0, c1, c2, c3, c4⟩ := (hact.kept hs02 (by simp)).kept hsi (fun h => by have := h.1; omega)
        have hw8 := wrap8 d
        obtain ⟨hp1, hp2⟩ := mod40 p
        obtain ⟨hq1, hq2⟩ := mod40 q
        have hR3 : ∀ c t, Rep (wr.alloc (.cells c t)) f m L al := fun c t => hRi.same0 (same_alloc _)
        have hs3 : ∀ c t, Same (Own w2 m) w2 (wr.alloc (.cells c t)) := fun c t => own_trans hsi (own_of (same_alloc _))
        by_cases hd6 : d % 8 = 6
        · have hb6 : ((IntKind.u64.wrap d).tmod 8 == 6) = true := by rw [hw8, hd6]; rfl
          have HD6 := Lib.hid hd6
          clear hd6 hw8
          go_wp2_with fail
          refine (done_any (hR3 _ _) d (1 + (IntKind.u64.wrap p).tmod 40) (1 + (IntKind.u64.wrap q).tmod 40) K T (by omega)).mono ?_
          rintro e w4 ⟨rfl, L4, al4, hD, hR4, hs4⟩
          have hs5 := own_trans (hs3 _ _) hs4
          have hM4 : L4.length ≤ 8 * (i + 1) := by have := hD.len; omega
          have hP4 : ∀ e ∈ L4, 1 ≤ e.pid ∧ e.pid ≤ 40 := fun e he => by
            rcases hD.mem e he with h | h | ⟨_, h⟩
            · exact HPP.out e h
            · omega
            · omega
          have HR4 := Lib.hid hR4
          have HP4 := Lib.hid hP4
          clear hR4 hRi hD hact hR3 hs3 hP4
          go_wp2
          go_round
          case rel => exact ⟨i + 1, by omega, by omega, by go_num, L4, al4, HR4.out, hM4, HP4.out, hs5⟩
          case measure => simp [intOf]; omega
        · have hb6 : ((IntKind.u64.wrap d).tmod 8 == 6) = false := by rw [hw8]; simp [hd6]
          have HD6 := Lib.hid hd6
          clear hd6 hw8
          go_wp2_with fail
          refine (done_any (hR3 _ _) d (1 + (IntKind.u64.wrap p).tmod 40) q K T (by omega)).mono ?_
          rintro e w4 ⟨rfl, L4, al4, hD, hR4, hs4⟩
          have hs5 := own_trans (hs3 _ _) hs4
          have hM4 : L4.length ≤ 8 * (i + 1) := by have := hD.len; omega
          have hP4 : ∀ e ∈ L4, 1 ≤ e.pid ∧ e.pid ≤ 40 := fun e he => by
            rcases hD.mem e he with h | h | ⟨h, _⟩
            · exact HPP.out e h
            · omega
            · exact absurd h HD6.out
          have HR4 := Lib.hid hR4
          have HP4 := Lib.hid hP4
          clear hR4 hRi hD hact hR3 hs3 hP4
          go_wp2
          go_round
          case rel => exact ⟨i + 1, by omega, by omega, by go_num, L4, al4, HR4.out, hM4, HP4.out, hs5⟩
          case measure => simp [intOf]; omega
    · have hcl : L.length ≤ 640 := by omega
      have hlt : i < len → 80 ≤ i := by omega
      have HRi := Lib.hid hRi
      clear hRi hik hM
      rcases Nat.lt_or_ge i len with hl | hl
      all_goals
        go_wp2_with fail
        refine (count_any HRi.out).mono ?_
        rintro e w4 ⟨rfl, rfl⟩
        go_wp2
        go_loopw [8, 9] (fun v8 v9 wx => ∃ k : Nat, k ≤ 40 ∧ v9 = .int .i64 (k + 1 : Nat) ∧ ∃ (g : Nat) (L4 : List Ent) (al4 : _), v8 = .int .i64 g ∧ g + cnt L4 = cnt L ∧ L4.length ≤ 640 ∧ (∀ e ∈ L4, (k : Int) < e.pid ∧ e.pid ≤ 40) ∧ Rep wx f m L4 al4 ∧ Same (Own w2 m) w2 wx) (fun _ v9 _ => 41 - (intOf v9).toNat)
        case atStart => exact ⟨0, by omega, rfl, 0, L, al, rfl, by omega, hcl, fun e he => by have := HPP.out e he; omega, HRi.out, hsi⟩
        case round =>
          obtain ⟨k, hk, rfl, g, L4, al4, rfl, hg, hl4, hP4, hRx, hsx⟩ := hrel
          have hkx := hRx.key
          have hrx := hRx.rng
          by_cases hk4 : k < 40
          · have hcn := cnt_dropTo hkx ((k + 1 : Nat) : Int) 8
            have hP5 : ∀ e ∈ dropTo L4 ((k + 1 : Nat) : Int) 8, ((k + 1 : Nat) : Int) < e.pid ∧ e.pid ≤ 40 := by
              intro e he
              have hm1 := drop_sub he
              have h1 := hP4 e hm1
              have h2 := ent_mem (keyd_dropTo hkx _ 8) he
              have h3 := hrx e hm1
              rw [ent_dropTo] at h2
              by_cases h4 : e.pid = ((k + 1 : Nat) : Int)
              · rw [if_pos ⟨h4, by omega, by omega⟩] at h2; cases h2
              · omega
            have hl5 := length_dropTo L4 ((k + 1 : Nat) : Int) 8
            have HP5 := Lib.hid hP5
            have HCN := Lib.hid hcn
            clear hP5 hkx hrx hP4 hcn
            go_wp2_with fail
            refine (drop_ok hRx ((k + 1 : Nat) : Int) (by omega) (by omega)).mono ?_
            rintro e w5 ⟨v, rfl, ho, al5, hR5, hs5⟩
            obtain ⟨aa, cc, rfl⟩ := ownsRow_slice ho
            have HR5 := Lib.hid hR5
            have hs6 := own_trans hsx hs5
            have hol := length_outTo L4 ((k + 1 : Nat) : Int) 8
            have hgc := cnt_le L
            generalize (outTo L4 ((k + 1 : Nat) : Int) 8).length = ol at HCN hol
            clear hR5 ho hs5 hRx
            go_wp2
            exact ⟨⟨k + 1, by omega, by go_num, g + ol, _, al5, by go_num, by have := HCN.out; omega, by omega, HP5.out, HR5.out, hs6⟩, by simp [intOf]; omega⟩
          · obtain rfl : k = 40 := by omega
            obtain rfl : L4 = [] := by
              cases L4 with
              | nil => rfl
              | cons e r => have := hP4 e List.mem_cons_self; omega
            obtain rfl : g = cnt L := hg
            clear hP4 hkx hrx
            go_wp2_with fail
            refine (count_any hRx).mono ?_
            rintro e w5 ⟨rfl, rfl⟩
            go_wp2
            go_ret
            exact ⟨rfl, hs02.trans' hsx (fun b hb hbw => by have := hb.1; omega)⟩
end Go.Proofs.Ytcllofffbmbmlaa
