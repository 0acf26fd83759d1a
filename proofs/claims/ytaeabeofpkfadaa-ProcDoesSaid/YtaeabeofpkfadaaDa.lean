/- proc: two lists of ints are the same; both tables beside each other. Conditions: their form. -/
import Derived.Test.YtaeabeofpkfadaaRk
import Derived.Test.YtaeabeofpkfadaaRl
import Derived.Test.YtaeabeofpkfadaaTw
namespace Go.Proofs.Ytaeabeofpkfadaa
open Go.RowKit Go.Shelf
attribute [local go_sem] Oper.semAt_some

set_option maxHeartbeats 1600000 in
theorem ints_any {w : World} {s1 s2 : Nat} {v1 v2 : Value} {K : List Int} (h1 : w.ownsRow s1 3 1 v1 K.length (K.map fun n => .int .i64 n)) (h2 : w.ownsRow s2 3 1 v2 K.length (K.map fun n => .int .i64 n)) (hl : K.length ≤ 1000) :
    Calls Try.prog 37 #[v1, v2] w fun e w' => e = .returned (.bool true) ∧ Same (fun _ => False) w w' := by
  obtain ⟨a1, c1, rfl, ha1⟩ := own_row_any2 h1
  obtain ⟨a2, c2, rfl, ha2⟩ := own_row_any2 h2
  obtain ⟨n, hn⟩ : ∃ n, n = K.length := ⟨_, rfl⟩
  rw [← hn] at h1 h2 ha1 ha2 hl ⊢
  have H1 := Lib.hid h1
  have H2 := Lib.hid h2
  have A1 := Lib.hid ha1
  have A2 := Lib.hid ha2
  have HN := Lib.hid hn
  clear h1 h2 ha1 ha2 hn
  go_enter Try.func37, Try.ntmps37
  go_wp2
  go_loopw [5] (fun v5 wx => ∃ (i : Nat) (W : World), W = wx ∧ i ≤ n ∧ v5 = .int .i64 i ∧ Same (fun _ => False) w W) (fun v5 _ => n - (intOf v5).toNat)
  case atStart => exact ⟨0, _, rfl, by omega, rfl, Same.refl _ _⟩
  case round =>
    obtain ⟨i, W, hW, hi, rfl, hs⟩ := hrel
    subst hW
    by_cases hin : i < n
    · have hii : (i : Int) < n := by omega
      obtain ⟨g1, rfl⟩ := A1.out (by omega)
      obtain ⟨g2, rfl⟩ := A2.out (by omega)
      obtain ⟨x, hx⟩ : ∃ x, K[i]? = some x := ⟨_, List.getElem?_eq_getElem (by have := HN.out; omega)⟩
      have d1 := hs.cell (H1.out.cells (g := g1) rfl i (.int .i64 x) (by rw [List.getElem?_map, hx]; rfl)) (fun h => h)
      have d2 := hs.cell (H2.out.cells (g := g2) rfl i (.int .i64 x) (by rw [List.getElem?_map, hx]; rfl)) (fun h => h)
      rw [show (⟨g1, 0, none⟩ : Addr).add i = ⟨g1, i, none⟩ by simp [Addr.add]; intro h; exact h.symm] at d1
      rw [show (⟨g2, 0, none⟩ : Addr).add i = ⟨g2, i, none⟩ by simp [Addr.add]; intro h; exact h.symm] at d2
      have HS := Lib.hid hs
      clear hs hx
      go_wp2
      go_quiet (fail)
      rename_i nq
      go_wp2
      go_round
      case rel => exact ⟨i + 1, _, rfl, by omega, by go_num, HS.out.drewN nq⟩
      case measure => simp [intOf]; omega
    · obtain rfl : i = n := by omega
      have HS := Lib.hid hs
      clear hs
      go_wp2
      go_ret
      exact ⟨rfl, HS.out⟩
/-- Both tables, the one or the other one of them with the processes L' already; an act's cells. -/
structure Two (s : Nat) (w0 : World) (t m r g0 : Nat) (L L' : List Pr) (last : Int) (o : Do) (b b' : Bool) (w : World) : Prop where
  tab : TabAt w t m (if b then L' else L) last
  ref : ∃ g cap, RAt s w r g cap (if b' then L' else L) last ∧ (g = g0 ∨ w0.heap.size < g)
  c1 : w.cell? ⟨w0.heap.size, 1, none⟩ = some (.int .i64 o.pid)
  c2 : w.cell? ⟨w0.heap.size, 2, none⟩ = some (.int .i64 o.stat)
  c3 : w.cell? ⟨w0.heap.size, 3, none⟩ = some (.int .i64 o.uid)
  c4 : w.cell? ⟨w0.heap.size, 4, none⟩ = some (.int .i64 o.gid)
  c5 : w.cell? ⟨w0.heap.size, 5, none⟩ = some (.string o.ch)
  same : Same (fun k => Own t m L k ∨ k = r ∨ k = g0) w0 w
/-- The tables lie apart. -/
structure Apart2 (w0 : World) (t m r g0 : Nat) (L L' : List Pr) : Prop where
  own : ∀ k, Own t m L k → k < w0.heap.size ∧ k ≠ r ∧ k ≠ g0
  own' : ∀ k, Own t m L' k → Own t m L k
  r : r < w0.heap.size
  g : g0 < w0.heap.size
theorem two_one {s : Nat} {w0 : World} {t m r g0 : Nat} {L L' : List Pr} {last : Int} {o : Do} (ha : Apart2 w0 t m r g0 L L') {f : Nat} {args : Array Value} {v : Value}
    (hc : ∀ w, TabAt w t m L last → Calls Try.prog f args w fun e w' => e = .returned v ∧ TabAt w' t m L' last ∧ Same (Own t m L) w w') {b' : Bool} {w : World} (h : Two s w0 t m r g0 L L' last o false b' w) :
    Calls Try.prog f args w fun e w' => e = .returned v ∧ Two s w0 t m r g0 L L' last o true b' w' := by
  refine (hc w h.tab).mono ?_
  rintro e w' ⟨rfl, hT, hs⟩
  obtain ⟨g, cap, hR, hg⟩ := h.ref
  have hx : ¬ Own t m L w0.heap.size := fun e => by have := (ha.own _ e).1; omega
  refine ⟨rfl, hT, ⟨g, cap, hR.same hs (fun e => (ha.own _ e).2.1 rfl) (fun e => ?_), hg⟩, hs.cell h.c1 hx, hs.cell h.c2 hx, hs.cell h.c3 hx, hs.cell h.c4 hx, hs.cell h.c5 hx, h.same.trans (hs.mono (fun _ _ e => .inl e))⟩
  have := ha.own _ e
  omega
theorem two_two {s : Nat} {w0 : World} {t m r g0 : Nat} {L L' : List Pr} {last : Int} {o : Do} (ha : Apart2 w0 t m r g0 L L') {f : Nat} {args : Array Value} {v : Value}
    (hc : ∀ w g cap, RAt s w r g cap L last → Calls Try.prog f args w fun e w' => e = .returned v ∧ RQ s w r g L' last w') {b : Bool} {w : World} (h : Two s w0 t m r g0 L L' last o b false w) :
    Calls Try.prog f args w fun e w' => e = .returned v ∧ Two s w0 t m r g0 L L' last o b true w' := by
  obtain ⟨g, cap, hR, hg⟩ := h.ref
  refine (hc w g cap hR).mono ?_
  rintro e w' ⟨rfl, g', cap', hR', hg', hs⟩
  have hr := ha.r
  have hgl := ha.g
  have hx : ¬ (w0.heap.size = r ∨ w0.heap.size = g) := by omega
  have hxl : w0.heap.size < w.heap.size := World.block_lt_of_cell? _ _ h.c1
  refine ⟨rfl, h.tab.same hs (fun k hk e => ?_), ⟨g', cap', hR', by omega⟩, hs.cell h.c1 hx, hs.cell h.c2 hx, hs.cell h.c3 hx, hs.cell h.c4 hx, hs.cell h.c5 hx, h.same.trans' hs (fun k e hk => by
    rcases e with e | e
    · exact .inr (.inl e)
    · right; right; omega)⟩
  have hk' : Own t m L k := by
    cases b
    · exact hk
    · exact ha.own' k hk
  have := ha.own k hk'
  omega
theorem Two.same0 {s : Nat} {w0 : World} {t m r g0 : Nat} {L L' : List Pr} {last : Int} {o : Do} {b b' : Bool} {w w' : World} (h : Two s w0 t m r g0 L L' last o b b' w) (hs : Same (fun _ => False) w w') : Two s w0 t m r g0 L L' last o b b' w' := by
  obtain ⟨g, cap, hR, hg⟩ := h.ref
  exact ⟨h.tab.same0 hs, ⟨g, cap, hR.same0 hs, hg⟩, hs.cell h.c1 (fun h => h), hs.cell h.c2 (fun h => h), hs.cell h.c3 (fun h => h), hs.cell h.c4 (fun h => h), hs.cell h.c5 (fun h => h), h.same.trans (hs.mono (fun _ _ h => h.elim))⟩
end Go.Proofs.Ytaeabeofpkfadaa
