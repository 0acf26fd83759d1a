/- The walk of SpaceFrees. Conditions: the arguments' form. -/
import Derived.Test.YtlbgnmcjdmdjpaaK1
import Derived.Test.YtlbgnmcjdmdjpaaK11
import Derived.Deep.RegionHeld3
set_option linter.unusedSimpArgs false
set_option linter.unusedVariables false
/- A slice argument of bools; slices of ints or bools by index. -/
namespace Go.Proofs.Ytlbgnmcjdmdjpaa
open Go.RowKit Go.ChangeShapes Go.WideShapes Go.Deep

section
variable {P : Program} {H : Type} {enc : TypeId × Value → H} {w : World} {base : Nat} {spare : Nat → Bool} {held : Bool}
theorem rows_bools {t e t' n fuel nl : Nat} {v : Value} {x : DataW H × List MemPlace} (ht : P.underlying t = some (.slice e)) (hc : P.cellsOf e = nl) (hl0 : ((List.range nl).all fun j => decide (leafAt P n e j = some t')) = true) (hu : P.underlying t' = some .bool)
    (h : DataW.trod enc P w base spare held fuel t [v] = some x) :
    ∃ (a : Option Addr) (len cap : Nat), v = .slice a len cap ∧ len ≤ maxLen ∧ (∀ x, a = some x → ∀ i, i < len → ∀ j, j < nl → ∃ b : Bool, w.cell? (x.add (i * nl + j)) = some (.bool b)) ∧ (a = none → len = 0) := by
  have hl : ∀ j, j < nl → leafAt P n e j = some t' := fun j hj => of_decide_eq_true (List.all_eq_true.1 hl0 j (List.mem_range.2 hj))
  rcases open_rows ht h with rfl | ⟨a, len, cap, rfl, h1, h2, h3⟩
  · exact ⟨none, 0, 0, rfl, Nat.zero_le _, by simp, fun _ => rfl⟩
  · refine ⟨some a, len, cap, rfl, by omega, ?_, by simp⟩
    rintro x rfl' i hi j hj
    cases rfl'
    obtain ⟨cs, m, y, h4, h5⟩ := h3 i hi
    obtain ⟨b, h6⟩ := leaf_bool (hl j hj) hu h5
    rw [hc] at h4
    exact ⟨b, (h4 j hj).trans h6⟩
end
theorem ints_fun {w : World} {a : Option Addr} {len : Nat} (h : ∀ x, a = some x → ∀ i, i < len → ∀ j, j < 1 → ∃ K : Int, w.cell? (x.add (i * 1 + j)) = some (.int .i64 K) ∧ (Lit.int .i64 K).wf = true) (hn : a = none → len = 0) :
    ∃ g : Nat → Int, ∀ i, i < len → ∃ x, a = some x ∧ w.cell? (x.add i) = some (.int .i64 (g i)) := by
  cases a with
  | none => exact ⟨fun _ => 0, fun i hi => by have := hn rfl; omega⟩
  | some x =>
    refine ⟨fun i => match w.cell? (x.add i) with | some (.int .i64 K) => K | _ => 0, fun i hi => ⟨x, rfl, ?_⟩⟩
    obtain ⟨K, hK, _⟩ := h x rfl i hi 0 (by omega)
    rw [show i * 1 + 0 = i by omega] at hK
    simp only [hK]
theorem bools_fun {w : World} {a : Option Addr} {len : Nat} (h : ∀ x, a = some x → ∀ i, i < len → ∀ j, j < 1 → ∃ b : Bool, w.cell? (x.add (i * 1 + j)) = some (.bool b)) (hn : a = none → len = 0) :
    ∃ g : Nat → Bool, ∀ i, i < len → ∃ x, a = some x ∧ w.cell? (x.add i) = some (.bool (g i)) := by
  cases a with
  | none => exact ⟨fun _ => false, fun i hi => by have := hn rfl; omega⟩
  | some x =>
    refine ⟨fun i => match w.cell? (x.add i) with | some (.bool K) => K | _ => false, fun i hi => ⟨x, rfl, ?_⟩⟩
    obtain ⟨K, hK⟩ := h x rfl i hi 0 (by omega)
    rw [show i * 1 + 0 = i by omega] at hK
    simp only [hK]
end Go.Proofs.Ytlbgnmcjdmdjpaa
namespace Go.Proofs.Ytlbgnmcjdmdjpaa
open Go.RowKit Go.Shelf
attribute [local go_sem] Oper.semAt_some
theorem and15 (n : Int) : bits .and .i64 n 15 = n % 16 := by
  have h15 : (BitVec.ofInt 64 15).toNat = 2 ^ 4 - 1 := by decide
  have key : (BitVec.ofInt 64 n &&& BitVec.ofInt 64 15).toNat = (n % ((2 ^ 64 : Nat) : Int)).toNat % 2 ^ 4 := by
    rw [BitVec.toNat_and, BitVec.toNat_ofInt, h15, Nat.and_two_pow_sub_one_eq_mod]
  show IntKind.i64.wrap ((BitVec.ofInt 64 n &&& BitVec.ofInt 64 15).toNat : Nat) = n % 16
  rw [key, IntKind.wrap_i64]
  omega
theorem wp_via9 {P : Program} {c : Code} {Q : Exit → Act → World → Prop} {a : Act} {w : World} (S : Nat → Nat → Int → Int → Int → Int → Option Addr → Nat → Nat → Int → World → Prop) (F : Nat → Nat → Int → Int → Int → Int → Option Addr → Nat → Nat → Int → Act)
    (h1 : c.wp P (fun e a' w' => e = .normal ∧ ∃ b g r t d h va vn vc er, S b g r t d h va vn vc er w' ∧ a' = F b g r t d h va vn vc er) a w) (h2 : ∀ b g r t d h va vn vc er W, S b g r t d h va vn vc er W → Q .normal (F b g r t d h va vn vc er) W) : c.wp P Q a w :=
  wp_mono h1 (by
    rintro e a' w' ⟨rfl, b, g, r, t, d, h, va, vn, vc, er, hs, rfl⟩
    exact h2 _ _ _ _ _ _ _ _ _ _ _ hs)
theorem keep6 {W0 W : World} {b b0 g i : Nat} {x u0 u1 u2 u3 u4 v0 v1 v2 v3 v4 : Value} (hb : g < W0.heap.size ∧ b0 < W0.heap.size) (hx : Bxx W0 W b) (h0 : W.cell? ⟨g, i, none⟩ = some x) (h1 : W.cell? ⟨b0, 0, none⟩ = some v0) (h2 : W.cell? ⟨b0, 1, none⟩ = some v1) (h3 : W.cell? ⟨b0, 2, none⟩ = some v2) (h4 : W.cell? ⟨b0, 3, none⟩ = some v3) (h5 : W.cell? ⟨b0, 4, none⟩ = some v4) :
    (((((W.setCell ⟨b, 0, none⟩ u0).setCell ⟨b, 1, none⟩ u1).setCell ⟨b, 2, none⟩ u2).setCell ⟨b, 3, none⟩ u3).setCell ⟨b, 4, none⟩ u4).cell? ⟨g, i, none⟩ = some x ∧ Fl (((((W.setCell ⟨b, 0, none⟩ u0).setCell ⟨b, 1, none⟩ u1).setCell ⟨b, 2, none⟩ u2).setCell ⟨b, 3, none⟩ u3).setCell ⟨b, 4, none⟩ u4) b0 v0 v1 v2 v3 v4 := by
  have hle := hx.le
  have hs : Same (· = b) W (((((W.setCell ⟨b, 0, none⟩ u0).setCell ⟨b, 1, none⟩ u1).setCell ⟨b, 2, none⟩ u2).setCell ⟨b, 3, none⟩ u3).setCell ⟨b, 4, none⟩ u4) := (((((Same.refl (· = b) W).setCell _ (.inr rfl)).setCell _ (.inr rfl)).setCell _ (.inr rfl)).setCell _ (.inr rfl)).setCell _ (.inr rfl)
  have n0 : ¬ (b0 = b) := by omega
  exact ⟨hs.cell h0 (fun (e : g = b) => by omega), hs.cell h1 n0, hs.cell h2 n0, hs.cell h3 n0, hs.cell h4 n0, hs.cell h5 n0⟩
theorem keep6a {W : World} {o : Obj} {b0 g i : Nat} {x v0 v1 v2 v3 v4 : Value} (h0 : W.cell? ⟨g, i, none⟩ = some x) (h1 : W.cell? ⟨b0, 0, none⟩ = some v0) (h2 : W.cell? ⟨b0, 1, none⟩ = some v1) (h3 : W.cell? ⟨b0, 2, none⟩ = some v2) (h4 : W.cell? ⟨b0, 3, none⟩ = some v3) (h5 : W.cell? ⟨b0, 4, none⟩ = some v4) :
    (W.alloc o).cell? ⟨g, i, none⟩ = some x ∧ Fl (W.alloc o) b0 v0 v1 v2 v3 v4 := by
  have hs : Same (fun _ => False) W (W.alloc o) := same_alloc _
  exact ⟨hs.cell h0 (fun h => h), hs.cell h1 (fun h => h), hs.cell h2 (fun h => h), hs.cell h3 (fun h => h), hs.cell h4 (fun h => h), hs.cell h5 (fun h => h)⟩
theorem keep7 {W0 W : World} {b b0 : Nat} {A0 : Addr} {x u0 u1 u2 u3 u4 v0 v1 v2 v3 v4 : Value} (hb : A0.block < W0.heap.size ∧ b0 < W0.heap.size) (hx : Bxx W0 W b) (h0 : W.cell? A0 = some x) (h1 : W.cell? ⟨b0, 0, none⟩ = some v0) (h2 : W.cell? ⟨b0, 1, none⟩ = some v1) (h3 : W.cell? ⟨b0, 2, none⟩ = some v2) (h4 : W.cell? ⟨b0, 3, none⟩ = some v3) (h5 : W.cell? ⟨b0, 4, none⟩ = some v4) :
    (((((W.setCell ⟨b, 0, none⟩ u0).setCell ⟨b, 1, none⟩ u1).setCell ⟨b, 2, none⟩ u2).setCell ⟨b, 3, none⟩ u3).setCell ⟨b, 4, none⟩ u4).cell? A0 = some x ∧ Fl (((((W.setCell ⟨b, 0, none⟩ u0).setCell ⟨b, 1, none⟩ u1).setCell ⟨b, 2, none⟩ u2).setCell ⟨b, 3, none⟩ u3).setCell ⟨b, 4, none⟩ u4) b0 v0 v1 v2 v3 v4 := by
  have hle := hx.le
  have hs : Same (· = b) W (((((W.setCell ⟨b, 0, none⟩ u0).setCell ⟨b, 1, none⟩ u1).setCell ⟨b, 2, none⟩ u2).setCell ⟨b, 3, none⟩ u3).setCell ⟨b, 4, none⟩ u4) := (((((Same.refl (· = b) W).setCell _ (.inr rfl)).setCell _ (.inr rfl)).setCell _ (.inr rfl)).setCell _ (.inr rfl)).setCell _ (.inr rfl)
  have n0 : ¬ (b0 = b) := by omega
  exact ⟨hs.cell h0 (fun (e : A0.block = b) => by omega), hs.cell h1 n0, hs.cell h2 n0, hs.cell h3 n0, hs.cell h4 n0, hs.cell h5 n0⟩
theorem keep7a {W : World} {o : Obj} {b0 : Nat} {A0 : Addr} {x v0 v1 v2 v3 v4 : Value} (h0 : W.cell? A0 = some x) (h1 : W.cell? ⟨b0, 0, none⟩ = some v0) (h2 : W.cell? ⟨b0, 1, none⟩ = some v1) (h3 : W.cell? ⟨b0, 2, none⟩ = some v2) (h4 : W.cell? ⟨b0, 3, none⟩ = some v3) (h5 : W.cell? ⟨b0, 4, none⟩ = some v4) :
    (W.alloc o).cell? A0 = some x ∧ Fl (W.alloc o) b0 v0 v1 v2 v3 v4 := by
  have hs : Same (fun _ => False) W (W.alloc o) := same_alloc _
  exact ⟨hs.cell h0 (fun h => h), hs.cell h1 (fun h => h), hs.cell h2 (fun h => h), hs.cell h3 (fun h => h), hs.cell h4 (fun h => h), hs.cell h5 (fun h => h)⟩
/-- The space within its box. -/
structure FrW (X W : World) (f fb b0 r : Nat) (M : Mm) (s : Spc) (va : Option Addr) (vc : Nat) : Prop where
  mem : MemAt W f fb M
  five : Five W b0 (.int .i64 s.root) (.int .i64 s.text) (.int .i64 s.data) (.int .i64 s.heap) (.slice va s.atts.length vc)
  atts : AttO W (.slice va s.atts.length vc) s.atts
  sh : W.shape? b0 = some (75, 5)
  same : Same (fun x => x = fb ∨ X.heap.size ≤ x) X W
  le : X.heap.size ≤ b0
  lt : fb < X.heap.size ∧ f < X.heap.size
  frs : ∃ T, FrS M s r T
set_option maxHeartbeats 3200000 in
set_option maxRecDepth 8192 in
theorem frees_walk (w : World) (a : Option Addr) (c : Nat) (l : List Int) (hl : ∀ i x, l[i]? = some x → ∃ A : Addr, a = some A ∧ w.cell? (A.add i) = some (.int .i64 x)) (hll : l.length ≤ 9223372036854775807) (n count : Int) (hin : In64 n) (hic : In64 count) :
    Calls Try.prog 16 #[.slice a l.length c, .int .i64 n, .int .i64 count] w fun e w' => e = .returned (.bool true) ∧ Same (fun _ => False) w w' := by
  by_cases hn : n < 1 ∨ 4 < n ∨ count < 1 ∨ 4 < count
  · have hd : (if n < 1 then true else if 4 < n then true else if count < 1 then true else decide (4 < count)) = true := by
      split
      · rfl
      · split
        · rfl
        · split
          · rfl
          · simp; omega
    have HD := Lib.hid hd
    clear hd
    rcases Classical.em (n < 1) with h1 | h1
    · have d1 : decide (n < 1) = true := by simpa using h1
      go_enter Try.func16, Try.ntmps16
      go_wp2_with fail
      refine (shown4 _).mono ?_
      rintro e w1 ⟨rfl, hs1⟩
      go_wp2
      go_ret
      exact ⟨rfl, hs1⟩
    · have d1 : decide (n < 1) = false := by simpa using h1
      rcases Classical.em (4 < n) with h2 | h2
      · have d2 : decide (4 < n) = true := by simpa using h2
        go_enter Try.func16, Try.ntmps16
        go_wp2_with fail
        refine (shown4 _).mono ?_
        rintro e w1 ⟨rfl, hs1⟩
        go_wp2
        go_ret
        exact ⟨rfl, hs1⟩
      · have d2 : decide (4 < n) = false := by simpa using h2
        rcases Classical.em (count < 1) with h3 | h3
        · have d3 : decide (count < 1) = true := by simpa using h3
          go_enter Try.func16, Try.ntmps16
          go_wp2_with fail
          refine (shown4 _).mono ?_
          rintro e w1 ⟨rfl, hs1⟩
          go_wp2
          go_ret
          exact ⟨rfl, hs1⟩
        · have d3 : decide (count < 1) = false := by simpa using h3
          have d4 : decide (4 < count) = true := by simp; omega
          go_enter Try.func16, Try.ntmps16
          go_wp2_with fail
          refine (shown4 _).mono ?_
          rintro e w1 ⟨rfl, hs1⟩
          go_wp2
          go_ret
          exact ⟨rfl, hs1⟩
  obtain ⟨n, rfl⟩ := Int.eq_ofNat_of_zero_le (show 0 ≤ n by omega)
  obtain ⟨ct, rfl⟩ := Int.eq_ofNat_of_zero_le (show 0 ≤ count by omega)
  have d1 : decide ((n : Int) < 1) = false := by simp; omega
  have d2 : decide ((4 : Int) < n) = false := by simp; omega
  have d3 : decide ((ct : Int) < 1) = false := by simp; omega
  have d4 : decide ((4 : Int) < ct) = false := by simp; omega
  have HN := Lib.hid (show (1 ≤ n ∧ n ≤ 4) ∧ 1 ≤ ct ∧ ct ≤ 4 by omega)
  have HL := Lib.hid (And.intro hl hll)
  clear hn hin hic hl hll
  go_enter Try.func16, Try.ntmps16
  go_wp2_with fail
  refine (shown4 _).mono ?_
  rintro e w1 ⟨rfl, hs1⟩
  go_wp2_with fail
  refine (new_any _ 60 (by omega) (by omega)).mono ?_
  rintro e w2 ⟨f, fb, rfl, hf, hfb, hM, hs2⟩
  have hs02 : Same (fun _ => False) w w2 := hs1.trans hs2
  have hsz1 := hs1.size
  have hwf : w.heap.size ≤ fb := by omega
  have hM : MemAt w2 f fb (Mm.taken 60 0) := hM
  have HH := Lib.hid (And.intro hs02 (And.intro hwf hM))
  clear hs1 hs2 hsz1 hf hfb hs02 hwf hM
  go_wp2_with fail
  go_loopw [10] (fun v10 wr => ∃ k : Nat, v10 = .int .i64 k ∧ k ≤ 4 ∧ MemAt wr f fb (Mm.taken 60 k) ∧ Same (· = fb) w2 wr) (fun v10 _ => 4 - (intOf v10).toNat)
  case atStart => exact ⟨0, rfl, by omega, HH.out.2.2, Same.refl _ _⟩
  case round =>
    obtain ⟨k, rfl, hk, hM, hs⟩ := hrel
    by_cases hlt : k < 4
    · have hd : decide ((k : Int) < 4) = true := by simp; omega
      have hadd : IntKind.i64.wrap ((k : Int) + 1) = ((k + 1 : Nat) : Int) := by rw [IntWalk.i64_in _ (by omega)]; rfl
      have C := Lib.hid (alloc_any hM)
      have HS := Lib.hid hs
      clear hM hs
      go_wp2_with fail
      refine C.out.mono ?_
      rintro e w3 (⟨hno, -⟩ | ⟨j, hj, hR, hlo, rfl, hM3, hs3⟩)
      · have := hno k (by rw [taken_n]; omega)
        rw [taken_R, if_neg (by omega)] at this
        omega
      have hjk : j = k := by
        rcases Nat.lt_trichotomy j k with c | c | c
        · rw [taken_R, if_pos c] at hR; omega
        · exact c
        · have := hlo k c
          rw [taken_R, if_neg (by omega)] at this
          omega
      subst hjk
      have H3 := Lib.hid (And.intro hM3 (HS.out.trans hs3))
      clear hM3 hs3 hlo hR hj HS
      go_wp2
      exact ⟨⟨j + 1, rfl, by omega, H3.out.1, H3.out.2⟩, by simp [intOf]; omega⟩
    · have : k = 4 := by omega
      subst this
      have H3 := Lib.hid (And.intro hM hs)
      clear hM hs hlt hk
      go_wp2_with fail
      refine (image_any _ tS ByteArray.empty).mono ?_
      rintro e w3 ⟨rfl, hs3⟩
      obtain ⟨hM, hs⟩ := H3.out
      obtain ⟨hs02, hwf, _⟩ := HH.out
      obtain ⟨M, r, T, hX, hS⟩ := frs_start
      have hx := exec_img (hM.same0 hs3) tS ByteArray.empty
      rw [show cut200 tS = tS from rfl, show cut200 ByteArray.empty = ByteArray.empty from rfl, hX] at hx
      simp only at hx
      rw [show ((spn 0 tS.size : Nat) : Int) = 1 by decide +kernel, show ((spn 0 ByteArray.empty.size : Nat) : Int) = 0 by decide +kernel] at hx
      have hx := Lib.hid hx
      have H4 := Lib.hid (And.intro ((hs02.mono (T := (· = fb)) (fun _ _ h => h.elim)).trans (hs.trans (hs3.mono (fun _ _ h => h.elim)))) hwf)
      have HS := Lib.hid hS
      clear hM hs hs02 hwf hX hs3 H3 HH hS
      go_wp2_with fail
      refine hx.out.mono ?_
      rintro e w4 ⟨hM4, hs4, ⟨-, rfl⟩ | ⟨h, -⟩⟩
      rotate_left
      · exact absurd rfl h
      have s04 := H4.out.1.trans hs4
      obtain ⟨s0, hs0⟩ : ∃ s : Spc, s = ⟨r, 1, 0, 0, []⟩ := ⟨_, rfl⟩
      obtain ⟨W5, hW5⟩ : ∃ W, W = w4.alloc (.cells #[.int .i64 r, .int .i64 1, .int .i64 0, .int .i64 0, .slice none 0 0] 75) := ⟨_, rfl⟩
      have hJ : FrW w4 W5 f fb w4.heap.size r M s0 none 0 := by
        subst hs0 hW5
        exact ⟨hM4.same0 (same_alloc _), five_new _ _ _ _ _ _, World.ownsRow_nil _ _ _ _, by rw [shape_alloc, if_pos rfl]; rfl, (same_alloc _).mono (fun _ _ h => h.elim), Nat.le_refl _, hM4.lt.symm, _, HS.out _ rfl rfl⟩
      have hat : s0.atts.length = 0 := by rw [hs0]; rfl
      obtain ⟨b0, hb0⟩ : ∃ b, b = w4.heap.size := ⟨_, rfl⟩
      have HJ := Lib.hid (And.intro hJ (And.intro hat s04))
      clear hM4 hs4 hx hJ hat s04 hs0
      go_wp2_with fail
      rw [← hW5]
      go_loopw [13] (fun v13 wr => ∃ (i : Nat) (M : Mm) (s : Spc) (va : Option Addr) (vc : Nat), v13 = .int .i64 i ∧ i ≤ l.length ∧ FrW w4 wr f fb w4.heap.size r M s va vc ∧ s.atts.length ≤ i ∧ i ≤ 6) (fun v13 _ => l.length - (intOf v13).toNat)
      case atStart => exact ⟨0, M, s0, none, 0, rfl, by omega, HJ.out.1, by rw [HJ.out.2.1]; omega, by omega⟩
      case round =>
        obtain ⟨i, M1, s, va, vc, rfl, hi, hF, hat, hi6⟩ := hrel
        by_cases hlt : i < l.length ∧ i < 6
        · have e1 : decide ((i : Int) < (l.length : Int)) = true := by simp; omega
          have e2 : decide ((i : Int) < 6) = true := by simp; omega
          obtain ⟨⟨⟨n1, n2⟩, c1, c2⟩, hl, hll⟩ := And.intro HN.out HL.out
          obtain ⟨m, hm⟩ : ∃ m, n = m + 1 := ⟨n - 1, by omega⟩
          obtain ⟨x, hx⟩ : ∃ x, l[i]? = some x := ⟨_, List.getElem?_eq_getElem hlt.1⟩
          obtain ⟨A, rfl, hc⟩ := hl i x hx
          have hg : (A.add i).block < w.heap.size := World.block_lt_of_cell? _ _ hc
          have hcx := hF.same.cell (HJ.out.2.2.cell hc (fun (e : (A.add i).block = fb) => by have := H4.out.2; omega)) (fun (e : (A.add i).block = fb ∨ w4.heap.size ≤ (A.add i).block) => by have := HJ.out.2.2.size; have := H4.out.2; omega)
          have hsub : IntKind.i64.wrap ((n : Int) - 1) = (m : Int) := by rw [IntWalk.i64_in _ (by omega)]; omega
          have hpg : IntKind.i64.wrap (128 + bits .and .i64 x 15) = ((128 + (x % 16).toNat : Nat) : Int) := by rw [and15, IntWalk.i64_in _ (by omega)]; omega
          have hi0 : (0 : Int) ≤ (i : Int) := by omega
          have hil : (i : Int) < (l.length : Int) := by omega
          obtain ⟨pg, hpgd⟩ : ∃ p, p = 128 + (x % 16).toNat := ⟨_, rfl⟩
          rw [← hpgd] at hpg
          have hgl : (givenF.take (m + 1)).length = m + 1 := (givenL_take (m + 1) (by omega) (by omega)).2
          have cg := reg_given hF.five m (by omega)
          have cgB := reg_givenB hF.five m (by omega)
          have ca := reg_att hF.mem s va vc hF.atts (by omega) hF.five (by have := hF.le; have := hF.lt; omega) pg (by constructor <;> omega) (givenF.take (m + 1)) (by omega)
          have caB := reg_attB hF.mem s va vc hF.atts (by omega) hF.five (by have := hF.le; have := hF.lt; omega) pg (by constructor <;> omega) (givenF.take (m + 1)) (by omega)
          rw [hgl] at ca caB
          have q0 := hF.five.c0
          have q1 := hF.five.c1
          have q2 := hF.five.c2
          have q3 := hF.five.c3
          have q4 := hF.five.c4
          have HFF := Lib.hid (And.intro hF (And.intro hat (And.intro hi6 (And.intro hlt (And.intro hpgd (And.intro hm hx))))))
          obtain ⟨b0, hb0⟩ : ∃ b, b = w4.heap.size := ⟨_, rfl⟩
          have HLT := Lib.hid hF.mem.lt.symm
          have HB := Lib.hid (show (A.add i).block < wr.heap.size ∧ w4.heap.size < wr.heap.size from ⟨World.block_lt_of_cell? _ _ hcx, World.block_lt_of_cell? _ _ hF.five.c0⟩)
          have hgi : ∀ W, Same (· = fb) wr W → W.cell? (A.add i) = some (.int .i64 x) := fun W h => h.cell hcx (fun (e : (A.add i).block = fb) => by have := H4.out.2; omega)
          have hfl : ∀ W, Same (fun _ => False) wr W → W.cell? (A.add i) = some (.int .i64 x) ∧ Fl W w4.heap.size (.int .i64 s.root) (.int .i64 s.text) (.int .i64 s.data) (.int .i64 s.heap) (.slice va s.atts.length vc) := fun W h => ⟨hgi W (h.mono (fun _ _ h => h.elim)), hF.five.fl h⟩
          have cg1 := fun W hs => (cg W hs).mono (R' := fun e w' => ∃ gg, e = .returned (.slice (some ⟨gg, 0, none⟩) (m + 1) 4) ∧ Same (fun _ => False) wr w' ∧ (w'.cell? (A.add i) = some (.int .i64 x) ∧ Fl w' w4.heap.size (.int .i64 s.root) (.int .i64 s.text) (.int .i64 s.data) (.int .i64 s.heap) (.slice va s.atts.length vc)) ∧ Hid (IntsO w' (some ⟨gg, 0, none⟩) (givenF.take (m + 1)))) (fun e w' ⟨gg, a1, a2, a3, a4⟩ => ⟨gg, a1, a2, hfl _ a2, a4⟩)
          have cgB1 := fun W hs b hb => (cgB W hs b hb).mono (R' := fun e w' => ∃ gg, e = .returned (.slice (some ⟨gg, 0, none⟩) (m + 1) 4) ∧ Same (fun _ => False) wr w' ∧ (w'.cell? (A.add i) = some (.int .i64 x) ∧ Fl w' w4.heap.size (.int .i64 s.root) (.int .i64 s.text) (.int .i64 s.data) (.int .i64 s.heap) (.slice va s.atts.length vc)) ∧ Hid (IntsO w' (some ⟨gg, 0, none⟩) (givenF.take (m + 1))) ∧ Fl0 w' b ∧ Fz w' b ∧ Hid (Bxx wr w' b)) (fun e w' ⟨gg, a1, a2, a3, a4⟩ => ⟨gg, a1, a2, hfl _ a2, a4⟩)
          have ca1 := fun W W1 gg c h1 h2 h3 => (ca W W1 gg c h1 h2 h3).mono (R' := fun e w' => ∃ r t d h ua un uc er, e = .returned (.tuple #[.agg #[.int .i64 r, .int .i64 t, .int .i64 d, .int .i64 h, .slice ua un uc], .int .i64 er]) ∧ (w'.cell? (A.add i) = some (.int .i64 x) ∧ Fl w' w4.heap.size (.int .i64 s.root) (.int .i64 s.text) (.int .i64 s.data) (.int .i64 s.heap) (.slice va s.atts.length vc)) ∧ Hid (AttP wr w' f fb s pg (givenF.take (m + 1)) (M1.attach s pg (givenF.take (m + 1)) true) r t d h ua un uc er)) (fun e w' ⟨r, t, d, h, ua, un, uc, er, a1, a2, a3⟩ => ⟨r, t, d, h, ua, un, uc, er, a1, ⟨hgi _ a3.out.same, a2⟩, a3⟩)
          have caB1 := fun W W1 gg c h1 h2 h3 b hb => (caB W W1 gg c h1 h2 h3 b hb).mono (R' := fun e w' => ∃ r t d h ua un uc er, e = .returned (.tuple #[.agg #[.int .i64 r, .int .i64 t, .int .i64 d, .int .i64 h, .slice ua un uc], .int .i64 er]) ∧ (w'.cell? (A.add i) = some (.int .i64 x) ∧ Fl w' w4.heap.size (.int .i64 s.root) (.int .i64 s.text) (.int .i64 s.data) (.int .i64 s.heap) (.slice va s.atts.length vc)) ∧ Hid (AttP wr w' f fb s pg (givenF.take (m + 1)) (M1.attach s pg (givenF.take (m + 1)) true) r t d h ua un uc er) ∧ Fl0 w' b ∧ Fz w' b ∧ Hid (Bxx wr w' b)) (fun e w' ⟨r, t, d, h, ua, un, uc, er, a1, a2, a3, a4⟩ => ⟨r, t, d, h, ua, un, uc, er, a1, ⟨hgi _ a3.out.same, a2⟩, a3, a4⟩)
          clear cg cgB ca caB
          clear hF hat hi6 hlt n1 n2 c1 c2 hll hm hx hgl hpgd hc hg hi
          go_wp2_with fail
          apply wp_via9 (S := fun b g r t d h ua un uc er W => AttE wr W f fb s pg (givenF.take (m + 1)) (M1.attach s pg (givenF.take (m + 1)) true) b r t d h ua un uc er)
          case h1 =>
            go_region_held3 (fun W => W.cell? (A.add i) = some (.int .i64 x) ∧ W.cell? ⟨w4.heap.size, 0, none⟩ = some (.int .i64 s.root) ∧ W.cell? ⟨w4.heap.size, 1, none⟩ = some (.int .i64 s.text) ∧ W.cell? ⟨w4.heap.size, 2, none⟩ = some (.int .i64 s.data) ∧ W.cell? ⟨w4.heap.size, 3, none⟩ = some (.int .i64 s.heap) ∧ W.cell? ⟨w4.heap.size, 4, none⟩ = some (.slice va s.atts.length vc)) (first | with_reducible exact keep7 HB.out hbq.out (by assumption) (by assumption) (by assumption) (by assumption) (by assumption) (by assumption) | with_reducible exact keep7a (by assumption) (by assumption) (by assumption) (by assumption) (by assumption) (by assumption) | go_keep | with_reducible exact hfl _ (Same.refl _ _) | with_reducible exact hfl _ ((Same.refl _ _).drew) | with_reducible exact hfl _ ((Same.refl _ _).alloc _)) (first | (go_at_call 52; refine (cgB1 _ (by first | with_reducible exact Same.refl _ _ | with_reducible exact (Same.refl _ _).drew | with_reducible exact (Same.refl _ _).alloc _ | with_reducible exact ((Same.refl _ _).alloc _).drew | with_reducible exact ((Same.refl _ _).drew).alloc _) _ (by first | with_reducible exact hbq.out | with_reducible exact Bxx.new (Same.refl _ _) | with_reducible exact (Bxx.new (Same.refl _ _)).drew | with_reducible exact Bxx.new hsq | exact Bxx.new ((Same.refl _ _).drew))).mono ?_; rintro e wq ⟨gg, rfl, hsq, ⟨y0, y1, y2, y3, y4, y5⟩, hiq, ⟨c0, c1, c2, c3, c4⟩, ⟨z0, z1, z2, z3, z4⟩, hbq⟩) | (go_at_call 52; refine (cg1 _ (by first | with_reducible exact Same.refl _ _ | with_reducible exact (Same.refl _ _).drew | with_reducible exact (Same.refl _ _).alloc _ | with_reducible exact ((Same.refl _ _).alloc _).drew | with_reducible exact ((Same.refl _ _).drew).alloc _)).mono ?_; rintro e wq ⟨gg, rfl, hsq, ⟨y0, y1, y2, y3, y4, y5⟩, hiq⟩) | (go_at_call 51; refine (caB1 _ _ _ _ hsq hiq (by first | with_reducible exact Same.refl _ _ | with_reducible exact (Same.refl _ _).drew | with_reducible exact (Same.refl _ _).alloc _ | with_reducible exact ((Same.refl _ _).alloc _).drew | with_reducible exact ((Same.refl _ _).drew).alloc _) _ (by first | with_reducible exact hbq.out | with_reducible exact Bxx.new (Same.refl _ _) | with_reducible exact (Bxx.new (Same.refl _ _)).drew | with_reducible exact Bxx.new hsq | exact Bxx.new ((Same.refl _ _).drew))).mono ?_; rintro e wp ⟨r1, t1, u1, h1, ua, un, uc, er, rfl, ⟨x0, x1, x2, x3, x4, x5⟩, hap, ⟨c0, c1, c2, c3, c4⟩, ⟨z0, z1, z2, z3, z4⟩, hbq⟩) | (go_at_call 51; refine (ca1 _ _ _ _ hsq hiq (by first | with_reducible exact Same.refl _ _ | with_reducible exact (Same.refl _ _).drew | with_reducible exact (Same.refl _ _).alloc _ | with_reducible exact ((Same.refl _ _).alloc _).drew | with_reducible exact ((Same.refl _ _).drew).alloc _)).mono ?_; rintro e wp ⟨r1, t1, u1, h1, ua, un, uc, er, rfl, ⟨x0, x1, x2, x3, x4, x5⟩, hap⟩))
            all_goals first
              | (obtain ⟨X, hX⟩ : ∃ X, X = wp.alloc (.cells #[.int .i64 r1, .int .i64 t1, .int .i64 u1, .int .i64 h1, .slice ua un uc] 75) := ⟨_, rfl⟩
                 obtain ⟨b, hb⟩ : ∃ b, b = wp.heap.size := ⟨_, rfl⟩
                 have hE := hap.out.ende hX
                 rw [← hb] at hE
                 rw [← hX, ← hb]
                 exact ⟨rfl, b, gg, r1, t1, u1, h1, ua, un, uc, er, hE, rfl⟩)
              | (obtain ⟨b, hb⟩ : ∃ b, b = wq.heap.size := ⟨_, rfl⟩
                 have hx := hbq.out
                 rw [← hb] at hx ⊢
                 exact ⟨rfl, b, gg, r1, t1, u1, h1, ua, un, uc, er, hap.out.endb HLT.out hx rfl, rfl⟩)
              | (obtain ⟨b, hb⟩ : ∃ b, b = wr.heap.size := ⟨_, rfl⟩
                 have hx := hbq.out
                 rw [← hb] at hx ⊢
                 exact ⟨rfl, b, gg, r1, t1, u1, h1, ua, un, uc, er, hap.out.endb HLT.out hx rfl, rfl⟩)
          rintro b gg r1 t1 u1 h1 ua un uc er W6 hE
          clear cg1 cgB1 ca1 caB1 hfl hgi q0 q1 q2 q3 q4 hcx
          obtain ⟨hF, hat, hi6, hlt, hpgd, hm, hx⟩ := HFF.out
          obtain ⟨T', hS⟩ := hF.frs
          have hnb := HN.out
          obtain ⟨hgv, hgl⟩ := givenL_take (m + 1) (by omega) (by omega)
          have hadd : IntKind.i64.wrap ((i : Int) + 1) = ((i + 1 : Nat) : Int) := by rw [IntWalk.i64_in _ (by omega)]; rfl
          have hpp := hE.p.er
          have hlw := hF.lt
          have hlb := hF.le
          have hbb := HB.out.2
          have hbe := hE.le
          have F6 := hF.five.same hE.p.same (by omega)
          have hsh6 := (hE.p.same.shp _ hbb).trans hF.sh
          rcases hS.does pg _ true hgv (by omega) (by rw [hgl]; omega) with ⟨_, ok, hnew⟩ | ⟨_, bad, hMM⟩
          · have er0 : er = 0 := hpp.trans ok
            obtain ⟨l', e1, e2, e3, e4, hv', hp'⟩ := hE.p.ok ok
            subst e1 e2 e3 e4 er0
            obtain ⟨T2, hS2⟩ := hnew l' hp' (by rw [hgl]; omega)
            have hun := (AttO.cells hv').1
            subst hun
            have hll' := hp'.length_eq
            simp only [List.length_append, List.length_cons, List.length_nil] at hll'
            have p0 := hE.five.c0
            have p1 := hE.five.c1
            have p2 := hE.five.c2
            have p3 := hE.five.c3
            have p4 := hE.five.c4
            have k0 := F6.c0
            have k1 := F6.c1
            have k2 := F6.c2
            have k3 := F6.c3
            have k4 := F6.c4
            have z0 := F6.fz 0
            have z1 := F6.fz 1
            have z2 := F6.fz 2
            have z3 := F6.fz 3
            have z4 := F6.fz 4
            have HE := Lib.hid (And.intro hE (And.intro hF (And.intro F6 (And.intro hsh6 (And.intro hS2 (And.intro hv' (And.intro hll' (And.intro hat (And.intro hi6 hlt)))))))))
            have HZ := Lib.hid (And.intro hlw (And.intro hlb (And.intro hbb hbe)))
            clear hE hF F6 hsh6 hS2 hv' hll' hat hi6 hlt hpgd hm hx hS hnb hgv hgl hpp hlw hlb hbb hbe ok hnew hp'
            go_wp2
            obtain ⟨hE, hF, F6, hsh6, hS2, hv', hll', hat, hi6, hlt⟩ := HE.out
            obtain ⟨hlw, hlb, hbb, hbe⟩ := HZ.out
            refine ⟨⟨i + 1, (M1.attach s pg (givenF.take (m + 1)) true).1, { s with atts := l' }, ua, uc, rfl, by omega, ?_, ?_, by omega⟩, by simp [intOf]; omega⟩
            · obtain ⟨W7, hW7⟩ : ∃ W, W = ((((W6.setCell ⟨w4.heap.size, 0, none⟩ (.int .i64 s.root)).setCell ⟨w4.heap.size, 1, none⟩ (.int .i64 s.text)).setCell ⟨w4.heap.size, 2, none⟩ (.int .i64 s.data)).setCell ⟨w4.heap.size, 3, none⟩ (.int .i64 s.heap)).setCell ⟨w4.heap.size, 4, none⟩ (.slice ua l'.length uc) := ⟨_, rfl⟩
              rw [← hW7]
              obtain ⟨F7, hs67⟩ := five_set hW7 F6
              exact ⟨hE.p.mem.same hs67 (by omega) (by omega), F7, hv'.same hs67 (fun x hx m e => by subst hx; rw [hsh6] at e; cases e), (hs67.shp _ (World.block_lt_of_cell? _ _ F6.c0)).trans hsh6,
                (hF.same.trans (hE.p.same.mono (fun _ _ h => .inl h))).trans' (hs67.mono (T := fun x => x = fb ∨ w4.heap.size ≤ x) (fun x _ hx => .inr (by omega))) (fun x hx _ => hx), hF.le, hF.lt, T2, hS2⟩
            · show l'.length ≤ i + 1
              omega
          · have hb1 : (er == 0) = false := by rw [hpp]; simpa using bad
            have HE := Lib.hid (And.intro hE (And.intro hF (And.intro F6 (And.intro hsh6 (And.intro hMM (And.intro hat (And.intro hi6 hlt)))))))
            have HS2 := Lib.hid hS
            clear hE hF F6 hsh6 hat hi6 hlt hpgd hm hx hS hnb hgv hgl hpp hlw hlb hbb hbe bad hMM
            go_wp2
            obtain ⟨hE, hF, F6, hsh6, hMM, hat, hi6, hlt⟩ := HE.out
            refine ⟨⟨i + 1, M1, s, va, vc, rfl, by omega, ?_, by omega, by omega⟩, by simp [intOf]; omega⟩
            have hm6 := hE.p.mem
            rw [hMM] at hm6
            have hlw := hF.lt
            have hshf := hF.mem.sh
            exact ⟨hm6, F6, hF.atts.same hE.p.same (fun x hx m e => by subst hx; obtain ⟨nn, hn⟩ := hshf; rw [hn] at e; cases e), hsh6, hF.same.trans (hE.p.same.mono (fun _ _ h => .inl h)), hF.le, hF.lt, _, HS2.out⟩
        · have hal : s.atts.length ≤ 6 := by omega
          obtain ⟨⟨n1, n2⟩, c1, c2⟩ := HN.out
          obtain ⟨T', hS⟩ := hF.frs
          have q0 := hF.five.c0
          have q1 := hF.five.c1
          have q2 := hF.five.c2
          have q3 := hF.five.c3
          have q4 := hF.five.c4
          have cf := free_sp wr s va s.atts.length vc hF.atts (by omega) (fun a ha => by have := hS.inr a ha; omega) ct (by constructor <;> omega)
          unfold Spc.val at cf
          have cf := Lib.hid cf
          have HFF := Lib.hid (And.intro hF (And.intro hal hS))
          have HLT0 := Lib.hid hlt
          clear hF hal hS n1 n2 c1 c2 hi hat hi6 hlt
          by_cases e1 : i < l.length
          case' pos =>
            have e2n : ¬ i < 6 := by have := HLT0.out; omega
            have e2' : decide ((i : Int) < 6) = false := by simp; omega
            go_wp2_with fail
          case' neg => go_wp2_with fail
          all_goals
            refine cf.out.mono ?_
            rintro e w8 ⟨page, rfl, hfr, hs8⟩
            obtain ⟨hF, hal, hS⟩ := HFF.out
            have hnb := HN.out
            obtain ⟨hgv, hgl⟩ := givenL_take ct (by omega) (by omega)
            obtain ⟨hp1, hp2, hno, hyes⟩ := hS.free _ hgv (page := page) (by rw [hgl]; exact hfr)
            rw [hgl] at hp2
            obtain ⟨pn, rfl⟩ := Int.eq_ofNat_of_zero_le (show 0 ≤ page by omega)
            have hF8 : FrW w4 w8 f fb w4.heap.size r M1 s va vc := ⟨hF.mem.same0 hs8, hF.five.same hs8 (fun h => h), hF.atts.same0 hs8, (hs8.shp _ (World.block_lt_of_cell? _ _ hF.five.c0)).trans hF.sh, hF.same.trans (hs8.mono (fun _ _ h => h.elim)), hF.le, hF.lt, hF.frs⟩
            have HG := Lib.hid (And.intro hF8 (And.intro hal (And.intro hS (And.intro hp1 (And.intro hp2 (And.intro hno hyes))))))
            clear hF hal hS hnb hgv hgl hp1 hp2 hno hyes hfr hs8 hF8
            go_wp2_with fail
            go_loopw [17] (fun v17 wt => ∃ p : Nat, v17 = .int .i64 p ∧ 128 ≤ p ∧ p ≤ pn ∧ FrW w4 wt f fb w4.heap.size r M1 s va vc) (fun v17 _ => pn - (intOf v17).toNat)
            case atStart => exact ⟨128, rfl, by omega, by have := HG.out.2.2.2.1; omega, HG.out.1⟩
            case round =>
              obtain ⟨p, rfl, hpa, hpb, hFt⟩ := hrel
              have hnb := HN.out
              have hal := HG.out.2.1
              have hp2 := HG.out.2.2.2.2.1
              by_cases hle : p < pn
              · have e3 : decide ((p : Int) < (pn : Int)) = true := by simpa using hle
                have hadd : IntKind.i64.wrap ((p : Int) + 1) = ((p + 1 : Nat) : Int) := by rw [IntWalk.i64_in _ (by omega)]; rfl
                have HPL := Lib.hid hle
                obtain ⟨hgv, hgl⟩ := givenL_take ct (by omega) (by omega)
                obtain ⟨m2, hm2⟩ : ∃ m2, m2 + 1 = ct := ⟨ct - 1, by omega⟩
                have hsub : IntKind.i64.wrap ((ct : Int) - 1) = (m2 : Int) := by rw [IntWalk.i64_in _ (by omega)]; omega
                have cg := reg_given hFt.five m2 (by omega)
                have cgB := reg_givenB hFt.five m2 (by omega)
                have ca := reg_att hFt.mem s va vc hFt.atts (by omega) hFt.five (by have := hFt.le; have := hFt.lt; omega) p (by constructor <;> omega) (givenF.take ct) (by omega)
                have caB := reg_attB hFt.mem s va vc hFt.atts (by omega) hFt.five (by have := hFt.le; have := hFt.lt; omega) p (by constructor <;> omega) (givenF.take ct) (by omega)
                rw [hm2] at cg cgB
                rw [hgl] at ca caB
                have hfl : ∀ W, Same (fun _ => False) wr W → Fl W w4.heap.size (.int .i64 s.root) (.int .i64 s.text) (.int .i64 s.data) (.int .i64 s.heap) (.slice va s.atts.length vc) := fun W h => hFt.five.fl h
                have q0 := hFt.five.c0
                have q1 := hFt.five.c1
                have q2 := hFt.five.c2
                have q3 := hFt.five.c3
                have q4 := hFt.five.c4
                have HFT := Lib.hid (And.intro hFt (And.intro hpa hpb))
                have HLT := Lib.hid hFt.mem.lt.symm
                have HB := Lib.hid (show w4.heap.size < wr.heap.size ∧ w4.heap.size < wr.heap.size from ⟨World.block_lt_of_cell? _ _ hFt.five.c0, World.block_lt_of_cell? _ _ hFt.five.c0⟩)
                clear hFt hnb hgv hgl hm2 hal hp2 hpa hpb hle
                go_wp2_with fail
                apply wp_via9 (S := fun b g r t d h ua un uc er W => AttE wr W f fb s p (givenF.take ct) (M1.attach s p (givenF.take ct) true) b r t d h ua un uc er)
                case h1 =>
                  go_region_held3 (fun W => W.cell? ⟨w4.heap.size, 0, none⟩ = some (.int .i64 s.root) ∧ W.cell? ⟨w4.heap.size, 1, none⟩ = some (.int .i64 s.text) ∧ W.cell? ⟨w4.heap.size, 2, none⟩ = some (.int .i64 s.data) ∧ W.cell? ⟨w4.heap.size, 3, none⟩ = some (.int .i64 s.heap) ∧ W.cell? ⟨w4.heap.size, 4, none⟩ = some (.slice va s.atts.length vc)) (first | with_reducible exact (keep6 HB.out hbq.out (by assumption) (by assumption) (by assumption) (by assumption) (by assumption) (by assumption) ).2 | with_reducible exact (keep6a (by assumption) (by assumption) (by assumption) (by assumption) (by assumption) (by assumption) ).2 | go_keep | with_reducible exact hfl _ (Same.refl _ _) | with_reducible exact hfl _ ((Same.refl _ _).drew) | with_reducible exact hfl _ ((Same.refl _ _).alloc _)) (first | (go_at_call 52; refine (cgB _ (by first | with_reducible exact Same.refl _ _ | with_reducible exact (Same.refl _ _).drew | with_reducible exact (Same.refl _ _).alloc _ | with_reducible exact ((Same.refl _ _).alloc _).drew | with_reducible exact ((Same.refl _ _).drew).alloc _) _ (by first | with_reducible exact hbq.out | with_reducible exact Bxx.new (Same.refl _ _) | with_reducible exact (Bxx.new (Same.refl _ _)).drew | with_reducible exact Bxx.new hsq | exact Bxx.new ((Same.refl _ _).drew))).mono ?_; rintro e wq ⟨gg, rfl, hsq, ⟨y0, y1, y2, y3, y4⟩, hiq, ⟨c0, c1, c2, c3, c4⟩, ⟨z0, z1, z2, z3, z4⟩, hbq⟩) | (go_at_call 52; refine (cg _ (by first | with_reducible exact Same.refl _ _ | with_reducible exact (Same.refl _ _).drew | with_reducible exact (Same.refl _ _).alloc _ | with_reducible exact ((Same.refl _ _).alloc _).drew | with_reducible exact ((Same.refl _ _).drew).alloc _)).mono ?_; rintro e wq ⟨gg, rfl, hsq, ⟨y0, y1, y2, y3, y4⟩, hiq⟩) | (go_at_call 51; refine (caB _ _ _ _ hsq hiq (by first | with_reducible exact Same.refl _ _ | with_reducible exact (Same.refl _ _).drew | with_reducible exact (Same.refl _ _).alloc _ | with_reducible exact ((Same.refl _ _).alloc _).drew | with_reducible exact ((Same.refl _ _).drew).alloc _) _ (by first | with_reducible exact hbq.out | with_reducible exact Bxx.new (Same.refl _ _) | with_reducible exact (Bxx.new (Same.refl _ _)).drew | with_reducible exact Bxx.new hsq | exact Bxx.new ((Same.refl _ _).drew))).mono ?_; rintro e wp ⟨r1, t1, u1, h1, ua, un, uc, er, rfl, ⟨x0, x1, x2, x3, x4⟩, hap, ⟨c0, c1, c2, c3, c4⟩, ⟨z0, z1, z2, z3, z4⟩, hbq⟩) | (go_at_call 51; refine (ca _ _ _ _ hsq hiq (by first | with_reducible exact Same.refl _ _ | with_reducible exact (Same.refl _ _).drew | with_reducible exact (Same.refl _ _).alloc _ | with_reducible exact ((Same.refl _ _).alloc _).drew | with_reducible exact ((Same.refl _ _).drew).alloc _)).mono ?_; rintro e wp ⟨r1, t1, u1, h1, ua, un, uc, er, rfl, ⟨x0, x1, x2, x3, x4⟩, hap⟩))
                  all_goals first
                    | (obtain ⟨X, hX⟩ : ∃ X, X = wp.alloc (.cells #[.int .i64 r1, .int .i64 t1, .int .i64 u1, .int .i64 h1, .slice ua un uc] 75) := ⟨_, rfl⟩
                       obtain ⟨b, hb⟩ : ∃ b, b = wp.heap.size := ⟨_, rfl⟩
                       have hE := hap.out.ende hX
                       rw [← hb] at hE
                       rw [← hX, ← hb]
                       exact ⟨rfl, b, gg, r1, t1, u1, h1, ua, un, uc, er, hE, rfl⟩)
                    | (obtain ⟨b, hb⟩ : ∃ b, b = wq.heap.size := ⟨_, rfl⟩
                       have hx := hbq.out
                       rw [← hb] at hx ⊢
                       exact ⟨rfl, b, gg, r1, t1, u1, h1, ua, un, uc, er, hap.out.endb HLT.out hx rfl, rfl⟩)
                    | (obtain ⟨b, hb⟩ : ∃ b, b = wr.heap.size := ⟨_, rfl⟩
                       have hx := hbq.out
                       rw [← hb] at hx ⊢
                       exact ⟨rfl, b, gg, r1, t1, u1, h1, ua, un, uc, er, hap.out.endb HLT.out hx rfl, rfl⟩)
                rintro b gg r1 t1 u1 h1 ua un uc er W6 hE
                clear cg cgB ca caB hfl q0 q1 q2 q3 q4
                obtain ⟨hFt, hpa, hpb⟩ := HFT.out
                have hle := HPL.out
                obtain ⟨hbad, hMM⟩ := HG.out.2.2.2.2.2.1 (p : Int) (by omega) (by omega) true
                have hpp := hE.p.er
                have hb1 : (er == 0) = false := by rw [hpp]; simpa using hbad
                have F6 := hFt.five.same hE.p.same (by have := hFt.le; have := hFt.lt; omega)
                have hsh6 := (hE.p.same.shp _ HB.out.1).trans hFt.sh
                have hm6 := hE.p.mem
                rw [hMM] at hm6
                have hshf := hFt.mem.sh
                have hF6 : FrW w4 W6 f fb w4.heap.size r M1 s va vc := ⟨hm6, F6, hFt.atts.same hE.p.same (fun x hx m e => by subst hx; obtain ⟨nn, hn⟩ := hshf; rw [hn] at e; cases e), hsh6, hFt.same.trans (hE.p.same.mono (fun _ _ h => .inl h)), hFt.le, hFt.lt, hFt.frs⟩
                have H6 := Lib.hid (And.intro hF6 (And.intro hpa (And.intro hpb hle)))
                clear hFt hpa hpb hle hbad hMM hpp F6 hsh6 hm6 hshf hF6 hE
                go_wp2
                exact ⟨⟨p + 1, rfl, by have := H6.out.2.1; omega, by have := H6.out.2.2.2; omega, H6.out.1⟩, by have := H6.out.2.2.2; simp [intOf]; omega⟩
              · have e3 : decide ((p : Int) < (pn : Int)) = false := by simpa using hle
                have e0 : p = pn := by omega
                subst e0
                obtain ⟨hgv, hgl⟩ := givenL_take ct (by omega) (by omega)
                obtain ⟨m2, hm2⟩ : ∃ m2, m2 + 1 = ct := ⟨ct - 1, by omega⟩
                have hsub : IntKind.i64.wrap ((ct : Int) - 1) = (m2 : Int) := by rw [IntWalk.i64_in _ (by omega)]; omega
                have cg := reg_given hFt.five m2 (by omega)
                have cgB := reg_givenB hFt.five m2 (by omega)
                have ca := reg_att hFt.mem s va vc hFt.atts (by omega) hFt.five (by have := hFt.le; have := hFt.lt; omega) p (by constructor <;> omega) (givenF.take ct) (by omega)
                have caB := reg_attB hFt.mem s va vc hFt.atts (by omega) hFt.five (by have := hFt.le; have := hFt.lt; omega) p (by constructor <;> omega) (givenF.take ct) (by omega)
                rw [hm2] at cg cgB
                rw [hgl] at ca caB
                have hfl : ∀ W, Same (fun _ => False) wr W → Fl W w4.heap.size (.int .i64 s.root) (.int .i64 s.text) (.int .i64 s.data) (.int .i64 s.heap) (.slice va s.atts.length vc) := fun W h => hFt.five.fl h
                have q0 := hFt.five.c0
                have q1 := hFt.five.c1
                have q2 := hFt.five.c2
                have q3 := hFt.five.c3
                have q4 := hFt.five.c4
                have HFT := Lib.hid (And.intro hFt (And.intro hpa hpb))
                have HLT := Lib.hid hFt.mem.lt.symm
                have HB := Lib.hid (show w4.heap.size < wr.heap.size ∧ w4.heap.size < wr.heap.size from ⟨World.block_lt_of_cell? _ _ hFt.five.c0, World.block_lt_of_cell? _ _ hFt.five.c0⟩)
                clear hFt hnb hgv hgl hm2 hal hp2 hpa hpb hle
                go_wp2_with fail
                apply wp_via9 (S := fun b g r t d h ua un uc er W => AttE wr W f fb s p (givenF.take ct) (M1.attach s p (givenF.take ct) true) b r t d h ua un uc er)
                case h1 =>
                  go_region_held3 (fun W => W.cell? ⟨w4.heap.size, 0, none⟩ = some (.int .i64 s.root) ∧ W.cell? ⟨w4.heap.size, 1, none⟩ = some (.int .i64 s.text) ∧ W.cell? ⟨w4.heap.size, 2, none⟩ = some (.int .i64 s.data) ∧ W.cell? ⟨w4.heap.size, 3, none⟩ = some (.int .i64 s.heap) ∧ W.cell? ⟨w4.heap.size, 4, none⟩ = some (.slice va s.atts.length vc)) (first | with_reducible exact (keep6 HB.out hbq.out (by assumption) (by assumption) (by assumption) (by assumption) (by assumption) (by assumption) ).2 | with_reducible exact (keep6a (by assumption) (by assumption) (by assumption) (by assumption) (by assumption) (by assumption) ).2 | go_keep | with_reducible exact hfl _ (Same.refl _ _) | with_reducible exact hfl _ ((Same.refl _ _).drew) | with_reducible exact hfl _ ((Same.refl _ _).alloc _)) (first | (go_at_call 52; refine (cgB _ (by first | with_reducible exact Same.refl _ _ | with_reducible exact (Same.refl _ _).drew | with_reducible exact (Same.refl _ _).alloc _ | with_reducible exact ((Same.refl _ _).alloc _).drew | with_reducible exact ((Same.refl _ _).drew).alloc _) _ (by first | with_reducible exact hbq.out | with_reducible exact Bxx.new (Same.refl _ _) | with_reducible exact (Bxx.new (Same.refl _ _)).drew | with_reducible exact Bxx.new hsq | exact Bxx.new ((Same.refl _ _).drew))).mono ?_; rintro e wq ⟨gg, rfl, hsq, ⟨y0, y1, y2, y3, y4⟩, hiq, ⟨c0, c1, c2, c3, c4⟩, ⟨z0, z1, z2, z3, z4⟩, hbq⟩) | (go_at_call 52; refine (cg _ (by first | with_reducible exact Same.refl _ _ | with_reducible exact (Same.refl _ _).drew | with_reducible exact (Same.refl _ _).alloc _ | with_reducible exact ((Same.refl _ _).alloc _).drew | with_reducible exact ((Same.refl _ _).drew).alloc _)).mono ?_; rintro e wq ⟨gg, rfl, hsq, ⟨y0, y1, y2, y3, y4⟩, hiq⟩) | (go_at_call 51; refine (caB _ _ _ _ hsq hiq (by first | with_reducible exact Same.refl _ _ | with_reducible exact (Same.refl _ _).drew | with_reducible exact (Same.refl _ _).alloc _ | with_reducible exact ((Same.refl _ _).alloc _).drew | with_reducible exact ((Same.refl _ _).drew).alloc _) _ (by first | with_reducible exact hbq.out | with_reducible exact Bxx.new (Same.refl _ _) | with_reducible exact (Bxx.new (Same.refl _ _)).drew | with_reducible exact Bxx.new hsq | exact Bxx.new ((Same.refl _ _).drew))).mono ?_; rintro e wp ⟨r1, t1, u1, h1, ua, un, uc, er, rfl, ⟨x0, x1, x2, x3, x4⟩, hap, ⟨c0, c1, c2, c3, c4⟩, ⟨z0, z1, z2, z3, z4⟩, hbq⟩) | (go_at_call 51; refine (ca _ _ _ _ hsq hiq (by first | with_reducible exact Same.refl _ _ | with_reducible exact (Same.refl _ _).drew | with_reducible exact (Same.refl _ _).alloc _ | with_reducible exact ((Same.refl _ _).alloc _).drew | with_reducible exact ((Same.refl _ _).drew).alloc _)).mono ?_; rintro e wp ⟨r1, t1, u1, h1, ua, un, uc, er, rfl, ⟨x0, x1, x2, x3, x4⟩, hap⟩))
                  all_goals first
                    | (obtain ⟨X, hX⟩ : ∃ X, X = wp.alloc (.cells #[.int .i64 r1, .int .i64 t1, .int .i64 u1, .int .i64 h1, .slice ua un uc] 75) := ⟨_, rfl⟩
                       obtain ⟨b, hb⟩ : ∃ b, b = wp.heap.size := ⟨_, rfl⟩
                       have hE := hap.out.ende hX
                       rw [← hb] at hE
                       rw [← hX, ← hb]
                       exact ⟨rfl, b, gg, r1, t1, u1, h1, ua, un, uc, er, hE, rfl⟩)
                    | (obtain ⟨b, hb⟩ : ∃ b, b = wq.heap.size := ⟨_, rfl⟩
                       have hx := hbq.out
                       rw [← hb] at hx ⊢
                       exact ⟨rfl, b, gg, r1, t1, u1, h1, ua, un, uc, er, hap.out.endb HLT.out hx rfl, rfl⟩)
                    | (obtain ⟨b, hb⟩ : ∃ b, b = wr.heap.size := ⟨_, rfl⟩
                       have hx := hbq.out
                       rw [← hb] at hx ⊢
                       exact ⟨rfl, b, gg, r1, t1, u1, h1, ua, un, uc, er, hap.out.endb HLT.out hx rfl, rfl⟩)
                rintro b gg r1 t1 u1 h1 ua un uc er W6 hE
                clear cg cgB ca caB hfl q0 q1 q2 q3 q4
                obtain ⟨hFt, hpa, hpb⟩ := HFT.out
                have ok := HG.out.2.2.2.2.2.2 true
                have er0 : er = 0 := hE.p.er.trans ok
                obtain ⟨l', x1, x2, x3, x4, hv', hp'⟩ := hE.p.ok ok
                subst x1 x2 x3 x4 er0
                have hun := (AttO.cells hv').1
                subst hun
                have hll' := hp'.length_eq
                simp only [List.length_append, List.length_cons, List.length_nil] at hll'
                have hal := HG.out.2.1
                have F6 := hFt.five.same hE.p.same (by have := hFt.le; have := hFt.lt; omega)
                have p0 := hE.five.c0
                have p1 := hE.five.c1
                have p2 := hE.five.c2
                have p3 := hE.five.c3
                have p4 := hE.five.c4
                have k0 := F6.c0
                have k1 := F6.c1
                have k2 := F6.c2
                have k3 := F6.c3
                have k4 := F6.c4
                have hadd : IntKind.i64.wrap ((s.atts.length : Int) + 1) = (l'.length : Int) := by rw [IntWalk.i64_in _ (by omega)]; omega
                have hge : decide ((128 : Int) ≤ (p : Int)) = true := by simp; omega
                have hfin : Same (fun _ => False) w W6 := by
                  have h1 := HJ.out.2.2
                  have h2 := h1.size
                  have h3 := H4.out.2
                  have ht : Same (fun x => x = fb ∨ w4.heap.size ≤ x) w W6 := (h1.mono (fun _ _ h => .inl h)).trans (hFt.same.trans (hE.p.same.mono (fun _ _ h => .inl h)))
                  refine (Same.refl (fun _ => False) w).trans' ht (fun x hx hlt => ?_)
                  rcases hx with hx | hx <;> omega
                have HX := Lib.hid hfin
                clear hFt hpa hpb ok hE hv' hp' hll' hal F6 hfin
                go_wp2
                go_ret
                exact ⟨rfl, HX.out⟩
theorem frees_walk' (w : World) (a : Option Addr) (len c : Nat) (gp : Nat → Int) (hlen : len ≤ 9223372036854775807) (ha : ∀ i, i < len → ∃ x, a = some x ∧ w.cell? (x.add i) = some (.int .i64 (gp i))) (n count : Int) (hin : In64 n) (hic : In64 count) :
    Calls Try.prog 16 #[.slice a len c, .int .i64 n, .int .i64 count] w fun e w' => e = .returned (.bool true) ∧ Same (fun _ => False) w w' := by
  have hl : ((List.range len).map gp).length = len := by simp
  have h := frees_walk w a c ((List.range len).map gp) (fun i x hx => by
    rcases Nat.lt_or_ge i len with hi | hi
    · rw [List.getElem?_map, List.getElem?_range hi, Option.map_some, Option.some.injEq] at hx
      subst hx
      exact ha i hi
    · rw [List.getElem?_eq_none (by rw [hl]; exact hi)] at hx
      cases hx) (by rw [hl]; exact hlen) n count hin hic
  rw [hl] at h
  exact h
end Go.Proofs.Ytlbgnmcjdmdjpaa
