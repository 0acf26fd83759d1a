import Derived.Test.YtcllofffbmbmlaaN
import Derived.Test.YtcllofffbmbmlaaSl
namespace Go.Proofs.Ytcllofffbmbmlaa
open Go.RowKit Go.Shelf
attribute [local go_sem] Oper.semAt_some

/-- A row of acts: each five ints. -/
def ActsAt (w : World) (a : Option Addr) (len : Nat) : Prop :=
  ∀ x, a = some x → ∀ i, i < len → ∀ j, j < 5 → ∃ K : Int, w.cell? (x.add (i * 5 + j)) = some (.int .i64 K) ∧ (Lit.int .i64 K).wf = true
/-- One act's five cells, as a load spells them. -/
structure ActAt (w : World) (b : Addr) (d p q K T : Int) : Prop where
  c0 : w.cell? b = some (.int .i64 d)
  c1 : w.cell? ⟨b.block, b.off + 1, none⟩ = some (.int .i64 p)
  c2 : w.cell? ⟨b.block, b.off + 2, none⟩ = some (.int .i64 q)
  c3 : w.cell? ⟨b.block, b.off + 3, none⟩ = some (.int .i64 K)
  c4 : w.cell? ⟨b.block, b.off + 4, none⟩ = some (.int .i64 T)
theorem ActsAt.act {w : World} {a : Option Addr} {len : Nat} (h : ActsAt w a len) {x : Addr} (hx : a = some x) {i : Nat} (hi : i < len) : ∃ d p q K T, ActAt w (x.add (i * 5)) d p q K T := by
  obtain ⟨d, h0, _⟩ := h x hx i hi 0 (by decide)
  obtain ⟨p, h1, _⟩ := h x hx i hi 1 (by decide)
  obtain ⟨q, h2, _⟩ := h x hx i hi 2 (by decide)
  obtain ⟨K, h3, _⟩ := h x hx i hi 3 (by decide)
  obtain ⟨T, h4, _⟩ := h x hx i hi 4 (by decide)
  rw [← add_add2] at h1 h2 h3 h4
  exact ⟨d, p, q, K, T, h0, h1, h2, h3, h4⟩
theorem ActAt.kept {w w' : World} {S : Nat → Prop} {b : Addr} {d p q K T : Int} (h : ActAt w b d p q K T) (hs : Same S w w') (hb : ¬ S b.block) : ActAt w' b d p q K T :=
  ⟨hs.cell h.c0 hb, hs.cell h.c1 hb, hs.cell h.c2 hb, hs.cell h.c3 hb, hs.cell h.c4 hb⟩
theorem ActAt.lt {w : World} {b : Addr} {d p q K T : Int} (h : ActAt w b d p q K T) : b.block < w.heap.size := World.block_lt_of_cell? _ _ h.c0

set_option maxHeartbeats 3200000 in
set_option maxRecDepth 8192 in
theorem least_walk (w : World) (a : Option Addr) (len cap : Nat) (pid : Int) (hlen : len ≤ maxLen) (hrows : ActsAt w a len) (hnil : a = none → len = 0) :
    Calls Try.prog 9 #[.slice a len cap, .int .i64 pid] w fun e w' => e = .returned (.bool true) ∧ Same (fun _ => False) w w' := by
  unfold maxLen at hlen
  have HROWS := Lib.hid hrows
  have HNIL := Lib.hid hnil
  clear hrows hnil
  by_cases hpid : pid < 1 ∨ 5 < pid
  · have hb : (decide (pid < 1) || decide (5 < pid)) = true := by simpa using hpid
    clear hpid
    go_enter Try.func9, Try.ntmps9
    go_wp2_with fail
    refine (shown_any _).mono ?_
    rintro e w1 ⟨rfl, hs1⟩
    go_wp2
    all_goals
      go_ret
      exact ⟨rfl, hs1⟩
  · have hp1 : 1 ≤ pid := by omega
    have hp5 : pid ≤ 5 := by omega
    clear hpid
    go_enter Try.func9, Try.ntmps9
    go_wp2_with fail
    refine (shown_any _).mono ?_
    rintro e w1 ⟨rfl, hs1⟩
    go_wp2_with fail
    refine (new_any _).mono ?_
    rintro e w2 ⟨f, m, rfl, hR2, hs2, hm2⟩
    have hs02 : Same (fun _ => False) w w2 := hs1.trans hs2
    have hsz2 := hs1.size
    have HR2 := Lib.hid hR2
    clear hR2
    go_wp2
    go_loopw [7] (fun v7 wr => ∃ i : Nat, i ≤ len ∧ i ≤ 60 ∧ v7 = .int .i64 i ∧ ∃ L al, Rep wr f m L al ∧ L.length ≤ 8 * i ∧ Same (Own w2 m) w2 wr) (fun v7 _ => len - (intOf v7).toNat)
    case atStart => exact ⟨0, by omega, by omega, rfl, [], [], HR2.out, by simp, Same.refl _ _⟩
    case round =>
      obtain ⟨i, hi1, hi2, rfl, L, al, hRi, hM, hsi⟩ := hrel
      by_cases hik : i < len ∧ i < 60
      · obtain ⟨hlt, hlt8⟩ := hik
        cases a with
        | none => exact absurd (HNIL.out rfl) (by omega)
        | some x =>
          obtain ⟨d, p, q, K, T, hact⟩ := HROWS.out.act rfl hlt
          have hblt := hact.lt
          obtain ⟨c0, c1, c2, c3, c4⟩ := (hact.kept hs02 (by simp)).kept hsi (fun h => by have := h.1; omega)
          go_wp2_with fail
          refine (done_any hRi d p q K T (by omega)).mono ?_
          rintro e w4 ⟨rfl, L4, al4, hD, hR4, hs4⟩
          have hs5 := own_trans hsi hs4
          have hM4 : L4.length ≤ 8 * (i + 1) := by have := hD.len; omega
          have HR4 := Lib.hid hR4
          clear hR4 hRi hD c0 c1 c2 c3 c4 hact
          go_wp2
          go_round
          case rel => exact ⟨i + 1, by omega, by omega, by go_num, L4, al4, HR4.out, hM4, hs5⟩
          case measure => simp [intOf]; omega
      · have hcl : L.length ≤ 480 := by omega
        have HRi := Lib.hid hRi
        have hlt : i < len → 60 ≤ i := by omega
        clear hRi hik hM
        rcases Nat.lt_or_ge i len with hl | hl
        all_goals
          go_wp2
          go_loopw [8] (fun v8 wx => ∃ k : Nat, k ≤ 8 ∧ v8 = .int .i64 k ∧ (∀ j : Nat, j < k → ent L pid j ≠ none) ∧ Rep wx f m L al ∧ Same (Own w2 m) w2 wx) (fun v8 _ => 8 - (intOf v8).toNat)
          case atStart => exact ⟨0, by omega, rfl, by omega, HRi.out, hsi⟩
          case round =>
            obtain ⟨k, hk, rfl, hall, hRx, hsx⟩ := hrel
            have HALL := Lib.hid hall
            clear hall
            by_cases hk8 : k < 8
            · cases hx : ent L pid k with
              | some e =>
                have g1 : getV L pid k = (.agg #[.int .i64 e.kind, .int .i64 e.thing], 0) := by simp [getV, hx, Int.not_lt.2 hp1]
                go_wp2_with fail
                refine (get_any hRx pid k).mono ?_
                rintro e' w6 ⟨rfl, hs6⟩
                rw [g1]
                simp only
                have HR6 := Lib.hid ((hRx.same0 hs6).same0 (same_alloc (.cells #[.int .i64 e.kind, .int .i64 e.thing] 23)))
                have hs6x := own_trans hsx (own_of (hs6.trans (same_alloc (.cells #[.int .i64 e.kind, .int .i64 e.thing] 23))))
                have hal : ∀ j : Nat, j < k + 1 → ent L pid j ≠ none := by
                  intro j hj
                  rcases Nat.lt_or_ge j k with h | h
                  · exact HALL.out j h
                  · obtain rfl : j = k := by omega
                    rw [hx]; simp
                have HAL := Lib.hid hal
                clear hal g1 hx hRx
                go_wp2
                exact ⟨⟨k + 1, by omega, by go_num, HAL.out, HR6.out, hs6x⟩, by simp [intOf]; omega⟩
              | none =>
                have g1 : getV L pid k = (.agg #[.int .i64 0, .int .i64 0], 80) := by simp [getV, hx, Int.not_lt.2 hp1]
                go_wp2_with fail
                refine (get_any hRx pid k).mono ?_
                rintro e' w6 ⟨rfl, hs6⟩
                rw [g1]
                simp only
                have hR6 := (hRx.same0 hs6).same0 (same_alloc (.cells #[.int .i64 0, .int .i64 0] 23))
                have hs6x := own_trans hsx (own_of (hs6.trans (same_alloc (.cells #[.int .i64 0, .int .i64 0] 23))))
                clear g1 hRx
                go_wp2_with fail
                refine (open_any hR6 pid 1 0 (by have := cnt_le L; omega)).mono ?_
                rintro e w7 ⟨L7, r, er, rfl, hO, al7, hR7, hs7⟩
                have hs8 := own_trans hs6x hs7
                cases hO with
                | arg h => omega
                | fds _ _ _ h => exact absurd hx (h k hk8)
                | files k' _ _ _ _ _ h32 =>
                  clear hx
                  go_wp2_with fail
                  refine (count_any hR7).mono ?_
                  rintro e w8 ⟨rfl, rfl⟩
                  rw [h32]
                  go_wp2
                  go_ret
                  exact ⟨rfl, hs02.trans' hs8 (fun b hb hbw => by have := hb.1; omega)⟩
                | ok j b _ _ _ hj h1 h2 _ _ =>
                  obtain rfl := free_unique h1 h2 hx HALL.out
                  clear hx h1 h2
                  go_wp2
                  go_ret
                  exact ⟨rfl, hs02.trans' hs8 (fun b hb hbw => by have := hb.1; omega)⟩
            · obtain rfl : k = 8 := by omega
              go_wp2_with fail
              refine (open_any hRx pid 1 0 (by have := cnt_le L; omega)).mono ?_
              rintro e w7 ⟨L7, r, er, rfl, hO, al7, hR7, hs7⟩
              have hs8 := own_trans hsx hs7
              cases hO with
              | arg h => omega
              | fds _ _ _ h =>
                go_wp2
                go_ret
                exact ⟨rfl, hs02.trans' hs8 (fun b hb hbw => by have := hb.1; omega)⟩
              | files k' _ _ _ h3 h4 h32 => exact absurd h4 (HALL.out k' h3)
              | ok j b _ _ _ hj h1 h2 _ _ => exact absurd h1 (HALL.out j hj)
end Go.Proofs.Ytcllofffbmbmlaa
