/- space: which attachment, which frame is the first one of a kind. Conditions: what is asked of each is told.
space.Free. Conditions: attachments' bounds.
space: is one of some frames none that is in use? Conditions: the memory's form.
space.Attach: what stands while it works. Conditions: the memory's form.
space.Attach. Conditions: the memory's form, attachments' bounds.
space.Attach. Conditions: the memory's form, attachments' bounds.
DERIVED: THE SHELF's CONTRACTS AT THIS DUMP, IN PLAIN WORDS (tools/lay-plain.mjs out of 'TryAttLay.lean', which tools/lay-shelf.mjs wrote): THE SAME DECLARATIONS UNDER THE SAME NAMES: 'import', 'namespace', 'open', 'def', 'theorem' AND NOTHING ELSE: no command of the shelf's: FOR A HAND-IN. Each laying: the table of numbers ('.._ren') and one theorem, a field a fact of the dump's own or the kernel's comparison; each contract: ONE APPLICATION.
slices.SortFunc at attachments. Conditions: their row is an array of its own.
slices.SortFunc at attachments: their row, sorted. Conditions: their row is an array of its own.
space.Attach. Conditions: the memory's form, attachments' bounds. -/
import Derived.Test.YtlbgnmcjdmdjpaaK5
import Derived.Test.YtlbgnmcjdmdjpaaK8
import Derived.Shelf.SlGeneric
import Derived.Shelf.SlSortCmp.WholeK
import Derived.Shelf.SlicesG.Cmp
import Derived.Shelf.Small.Bits
import Derived.Ground.SlsfProg
import Derived.Ground.SlgcProg
import Derived.Ground.SlgnProg
import Derived.Ground.NamesProg
import Derived.Test.YtlbgnmcjdmdjpaaProg
set_option linter.unusedSimpArgs false
set_option linter.unusedVariables false
namespace Go.Proofs.Ytlbgnmcjdmdjpaa
open Go.RowKit Go.Shelf
attribute [local go_sem] Oper.semAt_some
def Att.val (a : Att) : Value := .agg #[.int .i64 a.pg, .int .i64 a.ct, .bool a.wr]
/-- The place of the first one that p holds of, or -1. -/
def FirstI {α : Type} (l : List α) (p : α → Bool) (r : Int) : Prop := (r = -1 ∧ ∀ x ∈ l, p x = false) ∨ ∃ (i : Nat) (x : α), r = i ∧ l[i]? = some x ∧ p x = true ∧ ∀ j y, j < i → l[j]? = some y → p y = false
theorem flatA_at : ∀ (l : List Att) (i : Nat) (x : Att), l[i]? = some x → (flatA l)[3 * i]? = some (.int .i64 x.pg) ∧ (flatA l)[3 * i + 1]? = some (.int .i64 x.ct) ∧ (flatA l)[3 * i + 2]? = some (.bool x.wr)
  | [], i, x, h => by cases h
  | a :: l, 0, x, h => by
    rw [List.getElem?_cons_zero, Option.some.injEq] at h
    subst h
    exact ⟨rfl, rfl, rfl⟩
  | a :: l, i + 1, x, h => by
    rw [List.getElem?_cons_succ] at h
    have ih := flatA_at l i x h
    unfold flatA at ih ⊢
    rw [List.flatMap_cons]
    refine ⟨?_, ?_, ?_⟩
    · rw [List.getElem?_append_right (by simp; omega)]
      simpa [show 3 * (i + 1) - 3 = 3 * i by omega] using ih.1
    · rw [List.getElem?_append_right (by simp; omega)]
      simpa [show 3 * (i + 1) + 1 - 3 = 3 * i + 1 by omega] using ih.2.1
    · rw [List.getElem?_append_right (by simp; omega)]
      simpa [show 3 * (i + 1) + 2 - 3 = 3 * i + 2 by omega] using ih.2.2
set_option maxHeartbeats 1600000 in
theorem index97_any (w : World) (v : Value) (l : List Att) (h : AttO w v l) (hl : l.length ≤ 1000) (b1 b2 : Nat) (p : Att → Bool) (hp : ∀ W x, Same (fun _ => False) w W → x ∈ l → Calls Try.prog 97 #[x.val, .pointer (some ⟨b1, 0, none⟩), .pointer (some ⟨b2, 0, none⟩)] W fun e W' => e = .returned (.bool (p x)) ∧ Same (fun _ => False) W W') :
    Calls Try.prog 98 #[v, .func (.func 97) #[] #[.pointer (some ⟨b1, 0, none⟩), .pointer (some ⟨b2, 0, none⟩)]] w fun e w' => ∃ r : Int, e = .returned (.int .i64 r) ∧ FirstI l p r ∧ Same (fun _ => False) w w' := by
  obtain ⟨a, n, c, rfl⟩ : ∃ a n c, v = .slice a n c := by
    obtain ⟨_, ⟨rfl, _⟩ | ⟨g, cap, cur, rfl, _⟩⟩ := h
    · exact ⟨_, _, _, rfl⟩
    · exact ⟨_, _, _, rfl⟩
  have eg : ∀ args w, (callFunc 97 args).run Try.prog w = .ok (.enter 97 args) w := enters_of Try.func97 (by kernel_rfl) rfl
  obtain ⟨rfl, hc⟩ := AttO.cells h
  have HC := Lib.hid hc
  have HP := Lib.hid hp
  have hln : (l.length : Int) ≤ 1000 := by omega
  clear h hc hp
  go_enter Try.func98, Try.ntmps98
  go_wp2
  go_loopw [8] (fun v8 wr => ∃ i : Nat, i ≤ l.length ∧ v8 = .int .i64 i ∧ (∀ j y, j < i → l[j]? = some y → p y = false) ∧ Same (fun _ => False) w wr) (fun v8 _ => l.length - (intOf v8).toNat)
  case atStart => exact ⟨0, by omega, rfl, fun j y hj => absurd hj (by omega), Same.refl _ _⟩
  case round =>
    obtain ⟨i, hi, rfl, hno, hs⟩ := hrel
    have HNO := Lib.hid hno
    have HS := Lib.hid hs
    clear hno hs
    by_cases hlt : i < l.length
    · obtain ⟨x, hx⟩ : ∃ x, l[i]? = some x := ⟨_, List.getElem?_eq_getElem hlt⟩
      have hm : x ∈ l := List.mem_of_getElem? hx
      obtain ⟨g, rfl, hg⟩ : ∃ g, a = some ⟨g, 0, none⟩ ∧ ∀ j u, (flatA l)[j]? = some u → w.cell? ⟨g, j, none⟩ = some u := by
        rcases HC.out with ⟨_, e⟩ | ⟨g, e, _, hg⟩
        · subst e; cases hx
        · exact ⟨g, e, hg⟩
      obtain ⟨f0, f1, f2⟩ := flatA_at l i x hx
      have q0 : wr.cell? ⟨g, i * 3, none⟩ = some (.int .i64 x.pg) := by rw [Nat.mul_comm]; exact HS.out.cell (hg _ _ f0) (by simp)
      have q1 : wr.cell? ⟨g, i * 3 + 1, none⟩ = some (.int .i64 x.ct) := by rw [Nat.mul_comm]; exact HS.out.cell (hg _ _ f1) (by simp)
      have q2 : wr.cell? ⟨g, i * 3 + 2, none⟩ = some (.bool x.wr) := by rw [Nat.mul_comm]; exact HS.out.cell (hg _ _ f2) (by simp)
      have C := Lib.hid (HP.out wr x HS.out hm)
      have HX := Lib.hid (And.intro hx hm)
      clear f0 f1 f2 hg hx hm
      go_wp2_with fail
      refine C.out.mono ?_
      rintro e w' ⟨rfl, hs'⟩
      have HS' := Lib.hid hs'
      clear hs' C
      cases hpx : p x
      · go_wp2
        go_roundw
        case rel => exact ⟨i + 1, by omega, by go_num, fun j y hj hy => by
          rcases Nat.lt_or_ge j i with e | e
          · exact HNO.out j y e hy
          · obtain rfl : j = i := by omega
            rw [HX.out.1, Option.some.injEq] at hy
            subst hy
            exact hpx, HS.out.trans HS'.out⟩
        case measure => simp [intOf]; omega
      · go_wp2
        go_ret
        exact ⟨i, rfl, .inr ⟨i, x, rfl, HX.out.1, hpx, HNO.out⟩, HS.out.trans HS'.out⟩
    · go_wp2
      go_ret
      refine ⟨-1, rfl, .inl ⟨rfl, fun x hx => ?_⟩, HS.out⟩
      obtain ⟨j, hj⟩ := List.getElem?_of_mem hx
      exact HNO.out j x (by have := (List.getElem?_eq_some_iff.1 hj).1; omega) hj
set_option maxHeartbeats 1600000 in
theorem index99_any (w : World) (v : Value) (l : List Att) (h : AttO w v l) (hl : l.length ≤ 1000) (b1 : Nat) (p : Att → Bool) (hp : ∀ W x, Same (fun _ => False) w W → x ∈ l → Calls Try.prog 99 #[x.val, .pointer (some ⟨b1, 0, none⟩)] W fun e W' => e = .returned (.bool (p x)) ∧ Same (fun _ => False) W W') :
    Calls Try.prog 98 #[v, .func (.func 99) #[] #[.pointer (some ⟨b1, 0, none⟩)]] w fun e w' => ∃ r : Int, e = .returned (.int .i64 r) ∧ FirstI l p r ∧ Same (fun _ => False) w w' := by
  obtain ⟨a, n, c, rfl⟩ : ∃ a n c, v = .slice a n c := by
    obtain ⟨_, ⟨rfl, _⟩ | ⟨g, cap, cur, rfl, _⟩⟩ := h
    · exact ⟨_, _, _, rfl⟩
    · exact ⟨_, _, _, rfl⟩
  have eg : ∀ args w, (callFunc 99 args).run Try.prog w = .ok (.enter 99 args) w := enters_of Try.func99 (by kernel_rfl) rfl
  obtain ⟨rfl, hc⟩ := AttO.cells h
  have HC := Lib.hid hc
  have HP := Lib.hid hp
  have hln : (l.length : Int) ≤ 1000 := by omega
  clear h hc hp
  go_enter Try.func98, Try.ntmps98
  go_wp2
  go_loopw [8] (fun v8 wr => ∃ i : Nat, i ≤ l.length ∧ v8 = .int .i64 i ∧ (∀ j y, j < i → l[j]? = some y → p y = false) ∧ Same (fun _ => False) w wr) (fun v8 _ => l.length - (intOf v8).toNat)
  case atStart => exact ⟨0, by omega, rfl, fun j y hj => absurd hj (by omega), Same.refl _ _⟩
  case round =>
    obtain ⟨i, hi, rfl, hno, hs⟩ := hrel
    have HNO := Lib.hid hno
    have HS := Lib.hid hs
    clear hno hs
    by_cases hlt : i < l.length
    · obtain ⟨x, hx⟩ : ∃ x, l[i]? = some x := ⟨_, List.getElem?_eq_getElem hlt⟩
      have hm : x ∈ l := List.mem_of_getElem? hx
      obtain ⟨g, rfl, hg⟩ : ∃ g, a = some ⟨g, 0, none⟩ ∧ ∀ j u, (flatA l)[j]? = some u → w.cell? ⟨g, j, none⟩ = some u := by
        rcases HC.out with ⟨_, e⟩ | ⟨g, e, _, hg⟩
        · subst e; cases hx
        · exact ⟨g, e, hg⟩
      obtain ⟨f0, f1, f2⟩ := flatA_at l i x hx
      have q0 : wr.cell? ⟨g, i * 3, none⟩ = some (.int .i64 x.pg) := by rw [Nat.mul_comm]; exact HS.out.cell (hg _ _ f0) (by simp)
      have q1 : wr.cell? ⟨g, i * 3 + 1, none⟩ = some (.int .i64 x.ct) := by rw [Nat.mul_comm]; exact HS.out.cell (hg _ _ f1) (by simp)
      have q2 : wr.cell? ⟨g, i * 3 + 2, none⟩ = some (.bool x.wr) := by rw [Nat.mul_comm]; exact HS.out.cell (hg _ _ f2) (by simp)
      have C := Lib.hid (HP.out wr x HS.out hm)
      have HX := Lib.hid (And.intro hx hm)
      clear f0 f1 f2 hg hx hm
      go_wp2_with fail
      refine C.out.mono ?_
      rintro e w' ⟨rfl, hs'⟩
      have HS' := Lib.hid hs'
      clear hs' C
      cases hpx : p x
      · go_wp2
        go_roundw
        case rel => exact ⟨i + 1, by omega, by go_num, fun j y hj hy => by
          rcases Nat.lt_or_ge j i with e | e
          · exact HNO.out j y e hy
          · obtain rfl : j = i := by omega
            rw [HX.out.1, Option.some.injEq] at hy
            subst hy
            exact hpx, HS.out.trans HS'.out⟩
        case measure => simp [intOf]; omega
      · go_wp2
        go_ret
        exact ⟨i, rfl, .inr ⟨i, x, rfl, HX.out.1, hpx, HNO.out⟩, HS.out.trans HS'.out⟩
    · go_wp2
      go_ret
      refine ⟨-1, rfl, .inl ⟨rfl, fun x hx => ?_⟩, HS.out⟩
      obtain ⟨j, hj⟩ := List.getElem?_of_mem hx
      exact HNO.out j x (by have := (List.getElem?_eq_some_iff.1 hj).1; omega) hj
end Go.Proofs.Ytlbgnmcjdmdjpaa
namespace Go.Proofs.Ytlbgnmcjdmdjpaa
open Go.RowKit Go.Shelf
attribute [local go_sem] Oper.semAt_some
/-- Attachments as spaces have them. -/
def AttsOk (l : List Att) : Prop := ∀ x ∈ l, 0 ≤ x.pg ∧ x.pg ≤ 1000 ∧ 0 ≤ x.ct ∧ x.ct ≤ 1000
def ov (page count : Int) (x : Att) : Bool := decide (page < x.pg + x.ct) && decide (x.pg < page + count)
theorem clo97 (w : World) (b1 b2 : Nat) (page count : Int) (x : Att) (h1 : w.cell? ⟨b1, 0, none⟩ = some (.int .i64 page)) (h2 : w.cell? ⟨b2, 0, none⟩ = some (.int .i64 count)) (hp0 : 0 ≤ page) (hp : page ≤ 1000) (hc0 : 0 ≤ count) (hc : count ≤ 1000)
    (hx : 0 ≤ x.pg ∧ x.pg ≤ 1000 ∧ 0 ≤ x.ct ∧ x.ct ≤ 1000) :
    Calls Try.prog 97 #[x.val, .pointer (some ⟨b1, 0, none⟩), .pointer (some ⟨b2, 0, none⟩)] w fun e w' => e = .returned (.bool (ov page count x)) ∧ Same (fun _ => False) w w' := by
  obtain ⟨x1, x2, x3, x4⟩ := hx
  obtain ⟨pg, ct, wr⟩ := x
  simp only at x1 x2 x3 x4
  have l1 := World.block_lt_of_cell? _ _ h1
  have l2 := World.block_lt_of_cell? _ _ h2
  have n1 : ¬ b1 = w.heap.size := by intro e; subst e; exact absurd l1 (by simp)
  have n2 : ¬ b2 = w.heap.size := by intro e; subst e; exact absurd l2 (by simp)
  have k1 : (w.alloc (.cells #[.int .i64 pg, .int .i64 ct, .bool wr] 164)).cell? ⟨b1, 0, none⟩ = some (.int .i64 page) := (same_alloc _).cell h1 (by simp)
  have k2 : (w.alloc (.cells #[.int .i64 pg, .int .i64 ct, .bool wr] 164)).cell? ⟨b2, 0, none⟩ = some (.int .i64 count) := (same_alloc _).cell h2 (by simp)
  clear h1 h2 l1 l2
  show Calls Try.prog 97 #[.agg #[.int .i64 pg, .int .i64 ct, .bool wr], .pointer (some ⟨b1, 0, none⟩), .pointer (some ⟨b2, 0, none⟩)] w _
  unfold ov
  cases d1 : decide (page < pg + ct)
  · go_enter Try.func97, Try.ntmps97
    go_wp2
    go_ret
    exact ⟨by simp [d1], same_alloc _⟩
  · go_enter Try.func97, Try.ntmps97
    go_wp2
    go_ret
    exact ⟨by simp [d1], same_alloc _⟩
/-- Is there one among the attachments that p holds of? -/
theorem any_first {α : Type} {l : List α} {p : α → Bool} {r : Int} (h : FirstI l p r) : decide (0 ≤ r) = l.any p := by
  rcases h with ⟨rfl, h⟩ | ⟨i, x, rfl, hx, hp, _⟩
  · rw [show l.any p = false from List.any_eq_false.2 (fun x hx => by simp [h x hx])]; rfl
  · rw [show l.any p = true from List.any_eq_true.2 ⟨x, List.mem_of_getElem? hx, hp⟩]; simp
theorem contains97 (w : World) (v : Value) (l : List Att) (h : AttO w v l) (hl : l.length ≤ 1000) (hok : AttsOk l) (b1 b2 : Nat) (page count : Int) (h1 : w.cell? ⟨b1, 0, none⟩ = some (.int .i64 page)) (h2 : w.cell? ⟨b2, 0, none⟩ = some (.int .i64 count)) (hp0 : 0 ≤ page) (hp : page ≤ 1000) (hc0 : 0 ≤ count) (hc : count ≤ 1000) :
    Calls Try.prog 96 #[v, .func (.func 97) #[] #[.pointer (some ⟨b1, 0, none⟩), .pointer (some ⟨b2, 0, none⟩)]] w fun e w' => e = .returned (.bool (l.any (ov page count))) ∧ Same (fun _ => False) w w' := by
  have C := Lib.hid (index97_any w v l h hl b1 b2 (ov page count) (fun W x hs hx => clo97 W b1 b2 page count x (hs.cell h1 (by simp)) (hs.cell h2 (by simp)) hp0 hp hc0 hc (hok x hx)))
  clear h h1 h2
  go_enter Try.func96, Try.ntmps96
  go_wp2_with fail
  refine C.out.mono ?_
  rintro e w' ⟨r, rfl, hr, hs⟩
  have hd := any_first hr
  have HS := Lib.hid (And.intro hs hd)
  clear hr hs hd
  go_wp2
  go_ret
  exact ⟨by rw [← HS.out.2]; rfl, HS.out.1⟩
/-- Where something may be attached. -/
def FreeR (l : List Att) (count r : Int) : Prop :=
  (r = 0 ∧ (count ≤ 0 ∨ ∀ p : Int, 128 ≤ p → p ≤ 240 - count → l.any (ov p count) = true)) ∨ (0 < count ∧ 128 ≤ r ∧ r ≤ 240 - count ∧ l.any (ov r count) = false ∧ ∀ p : Int, 128 ≤ p → p < r → l.any (ov p count) = true)
def boxInt (w : World) (v : Value) : Int := match v with
  | .pointer (some a) => intOf ((w.cell? a).getD undef)
  | _ => 0
theorem boxInt_cell {w : World} {b : Nat} {n : Int} (h : w.cell? ⟨b, 0, none⟩ = some (.int .i64 n)) : boxInt w (.pointer (some ⟨b, 0, none⟩)) = n := by
  unfold boxInt; simp only [h]; rfl
set_option maxHeartbeats 1600000 in
theorem free_sp (w : World) (s : Spc) (va : Option Addr) (vn vc : Nat) (h : AttO w (.slice va vn vc) s.atts) (hl : s.atts.length ≤ 1000) (hok : AttsOk s.atts) (count : Int) (hin : In64 count) :
    Calls Try.prog 53 #[s.val (.slice va vn vc), .int .i64 count] w fun e w' => ∃ r : Int, e = .returned (.int .i64 r) ∧ FreeR s.atts count r ∧ Same (fun _ => False) w w' := by
  obtain ⟨root, tx, dt, hp, atts⟩ := s
  simp only at h hl hok
  show Calls Try.prog 53 #[.agg #[.int .i64 root, .int .i64 tx, .int .i64 dt, .int .i64 hp, .slice va vn vc], .int .i64 count] w _
  obtain ⟨hi1, hi2⟩ := hin
  have HOK := Lib.hid hok
  have HH := Lib.hid h
  clear hok h
  go_enter Try.func53, Try.ntmps53
  go_wp2_with fail
  go_loopw [5] (fun v5 wr => ∃ (b : Nat) (p : Nat), v5 = .pointer (some ⟨b, 0, none⟩) ∧ w.heap.size + 1 < b ∧ wr.cell? ⟨b, 0, none⟩ = some (.int .i64 (p : Int)) ∧ wr.frozen? ⟨b, 0, none⟩ = false ∧ 128 ≤ p ∧ p ≤ 240 ∧
      (∀ q : Int, 128 ≤ q → q < p → atts.any (ov q count) = true) ∧ wr.cell? ⟨w.heap.size + 1, 0, none⟩ = some (.int .i64 count) ∧ wr.cell? ⟨w.heap.size, 4, none⟩ = some (.slice va vn vc) ∧ Same (fun _ => False) w wr) (fun v5 wr => 240 - (boxInt wr v5).toNat)
  case atStart =>
    refine ⟨w.heap.size + 1 + 1, 128, rfl, by omega, ?_, ?_, by omega, by omega, fun q h1 h2 => by omega, ?_, ?_, ?_⟩
    · rw [World.cell?_alloc_at _ _ _ _ (by simp)]; rfl
    · rw [World.frozen?_alloc_at _ _ _ _ (by simp)]
    · rw [World.cell?_alloc_past _ _ _ (by simp), World.cell?_alloc_at _ _ _ _ (by simp)]; rfl
    · rw [World.cell?_alloc_past _ _ _ (by simp; omega), World.cell?_alloc_past _ _ _ (by simp), World.cell?_alloc_at _ _ _ _ rfl]; rfl
    · exact ((same_alloc _).trans (same_alloc _)).trans (same_alloc _)
  case round =>
    obtain ⟨b, p, rfl, hb, hp, hpz, hp1, hp2, hall, hcnt, hsl, hs⟩ := hrel
    by_cases hc : count ≤ 0
    · have hd : decide (0 < count) = false := by simp; omega
      have HC := Lib.hid hc
      have HS := Lib.hid hs
      clear hc hs hall
      go_wp2
      go_ret
      exact ⟨0, rfl, .inl ⟨rfl, .inl HC.out⟩, HS.out⟩
    have hd : decide (0 < count) = true := by simp; omega
    have hsub : IntKind.i64.wrap (240 - count) = 240 - count := IntWalk.i64_in _ (by omega)
    by_cases hle : (p : Int) ≤ 240 - count
    · have hd2 : decide ((p : Int) ≤ 240 - count) = true := by simpa using hle
      have hv := HH.out.same0 hs
      have C := Lib.hid (contains97 wr (.slice va vn vc) atts hv hl HOK.out b (w.heap.size + 1) p count hp hcnt (by omega) (by omega) (by omega) (by omega))
      have HS := Lib.hid (And.intro hs (And.intro hall (And.intro hb hsl)))
      have HP := Lib.hid hp
      have HC := Lib.hid (And.intro hc hle)
      clear hs hall hb hc hle hv
      go_wp2_with fail
      refine C.out.mono ?_
      rintro e w' ⟨rfl, hs'⟩
      have g0 := hs'.cell hp (by simp)
      have g1 := hs'.unfrozen hp hpz (by simp)
      have g2 := hs'.cell hcnt (by simp)
      have HS' := Lib.hid hs'
      clear C hs' hp hpz hcnt hsl
      cases hany : atts.any (ov (p : Int) count)
      · go_wp2
        go_ret
        obtain ⟨hs, hall, hb, hsl⟩ := HS.out
        obtain ⟨hc, hle⟩ := HC.out
        exact ⟨p, rfl, .inr ⟨by omega, by omega, hle, hany, fun q h1 h2 => hall q h1 h2⟩, hs.trans HS'.out⟩
      · have HA := Lib.hid hany
        clear hany
        go_wp2
        go_roundw
        case rel =>
          obtain ⟨hs, hall, hb, hsl⟩ := HS.out
          obtain ⟨hc, hle⟩ := HC.out
          have hs2 := HS'.out
          have hsz := hs2.size
          have hsz2 := hs.size
          have hbw := World.block_lt_of_cell? _ _ g0
          have hsl' := hs2.cell hsl (by simp)
          refine ⟨w'.heap.size, p + 1, rfl, by simp only at hbw; omega, by rw [World.cell?_alloc_at _ _ _ _ rfl]; rfl, World.frozen?_alloc_at _ _ _ _ rfl, by omega, by omega, fun q h1 h2 => ?_, (same_alloc _).cell g2 (by simp), (same_alloc _).cell hsl' (by simp), (hs.trans hs2).trans (same_alloc _)⟩
          rcases Int.lt_or_le q p with e | e
          · exact hall q h1 e
          · obtain rfl : q = p := by omega
            exact HA.out
        case measure =>
          obtain ⟨hc, hle⟩ := HC.out
          rw [boxInt_cell HP.out, boxInt_cell (n := (p : Int) + 1) (by rw [World.cell?_alloc_at _ _ _ _ rfl]; rfl)]
          omega
    · have hd2 : decide ((p : Int) ≤ 240 - count) = false := by simp; omega
      have HS := Lib.hid (And.intro hs (And.intro hall (And.intro hb hsl)))
      have HC := Lib.hid (And.intro hc hle)
      clear hs hall hb hc hle
      go_wp2
      go_ret
      obtain ⟨hs, hall, hb, hsl⟩ := HS.out
      obtain ⟨hc, hle⟩ := HC.out
      exact ⟨0, rfl, .inl ⟨rfl, .inr (fun q h1 h2 => hall q h1 (by omega))⟩, hs⟩
end Go.Proofs.Ytlbgnmcjdmdjpaa
namespace Go.Proofs.Ytlbgnmcjdmdjpaa
open Go.RowKit Go.Shelf
attribute [local go_sem] Oper.semAt_some
/-- Some numbers in an array of their own. -/
def IntsO (w : World) (a : Option Addr) (l : List Int) : Prop := l = [] ∨ ∃ g, a = some ⟨g, 0, none⟩ ∧ g < w.heap.size ∧ (∃ n, w.shape? g = some (3, n)) ∧ ∀ i x, l[i]? = some x → w.cell? ⟨g, i, none⟩ = some (.int .i64 x)
theorem IntsO.same {w w' : World} {a : Option Addr} {l : List Int} {S : Nat → Prop} (h : IntsO w a l) (hs : Same S w w') (hS : ∀ k n, k < w.heap.size → w.shape? k = some (3, n) → ¬ S k) : IntsO w' a l := by
  rcases h with h | ⟨g, rfl, hg, ⟨n, hn⟩, hc⟩
  · exact .inl h
  · exact .inr ⟨g, rfl, Nat.lt_of_lt_of_le hg hs.size, ⟨n, (hs.shp _ hg).trans hn⟩, fun i x hx => hs.cell (hc i x hx) (hS g n hg hn)⟩
theorem IntsO.same0 {w w' : World} {a : Option Addr} {l : List Int} (h : IntsO w a l) (hs : Same (fun _ => False) w w') : IntsO w' a l := h.same hs (fun _ _ _ _ e => e)
theorem clo92 {w : World} {f fb : Nat} {M : Mm} (hM : MemAt w f fb M) (b1 : Nat) (h1 : w.cell? ⟨b1, 0, none⟩ = some (.pointer (some ⟨f, 0, none⟩))) (x : Int) :
    Calls Try.prog 92 #[.int .i64 x, .pointer (some ⟨b1, 0, none⟩)] w fun e w' => e = .returned (.bool (M.refs x == 0)) ∧ Same (fun _ => False) w w' := by
  have C := Lib.hid (refs_any hM x)
  clear hM
  go_enter Try.func92, Try.ntmps92
  go_wp2_with fail
  refine C.out.mono ?_
  rintro e w' ⟨rfl, hs⟩
  have HS := Lib.hid hs
  clear hs C
  go_wp2
  go_ret
  exact ⟨rfl, HS.out⟩
set_option maxHeartbeats 1600000 in
theorem index92_any {w : World} {f fb : Nat} {M : Mm} (hM : MemAt w f fb M) (a : Option Addr) (c : Nat) (l : List Int) (h : IntsO w a l) (hl : l.length ≤ 1000) (b1 : Nat) (h1 : w.cell? ⟨b1, 0, none⟩ = some (.pointer (some ⟨f, 0, none⟩))) :
    Calls Try.prog 116 #[.slice a l.length c, .func (.func 92) #[] #[.pointer (some ⟨b1, 0, none⟩)]] w fun e w' => ∃ r : Int, e = .returned (.int .i64 r) ∧ FirstI l (fun x => M.refs x == 0) r ∧ Same (fun _ => False) w w' := by
  have eg : ∀ args w, (callFunc 92 args).run Try.prog w = .ok (.enter 92 args) w := enters_of Try.func92 (by kernel_rfl) rfl
  have HC := Lib.hid h
  have HP := Lib.hid (And.intro hM h1)
  have hln : (l.length : Int) ≤ 1000 := by omega
  clear h hM h1
  go_enter Try.func116, Try.ntmps116
  go_wp2
  go_loopw [8] (fun v8 wr => ∃ i : Nat, i ≤ l.length ∧ v8 = .int .i64 i ∧ (∀ j y, j < i → l[j]? = some y → (M.refs y == 0) = false) ∧ Same (fun _ => False) w wr) (fun v8 _ => l.length - (intOf v8).toNat)
  case atStart => exact ⟨0, by omega, rfl, fun j y hj => absurd hj (by omega), Same.refl _ _⟩
  case round =>
    obtain ⟨i, hi, rfl, hno, hs⟩ := hrel
    have HNO := Lib.hid hno
    have HS := Lib.hid hs
    clear hno hs
    by_cases hlt : i < l.length
    · obtain ⟨x, hx⟩ : ∃ x, l[i]? = some x := ⟨_, List.getElem?_eq_getElem hlt⟩
      have hm : x ∈ l := List.mem_of_getElem? hx
      obtain ⟨g, rfl, hg⟩ : ∃ g, a = some ⟨g, 0, none⟩ ∧ ∀ i x, l[i]? = some x → w.cell? ⟨g, i, none⟩ = some (.int .i64 x) := by
        rcases HC.out with e | ⟨g, e, _, _, hg⟩
        · subst e; cases hx
        · exact ⟨g, e, hg⟩
      have q0 : wr.cell? ⟨g, i, none⟩ = some (.int .i64 x) := HS.out.cell (hg _ _ hx) (by simp)
      have C := Lib.hid (clo92 (HP.out.1.same0 HS.out) b1 (HS.out.cell HP.out.2 (by simp)) x)
      have HX := Lib.hid (And.intro hx hm)
      clear hg hx hm
      go_wp2_with fail
      refine C.out.mono ?_
      rintro e w' ⟨rfl, hs'⟩
      have HS' := Lib.hid hs'
      obtain ⟨B, hB⟩ : ∃ B, (M.refs x == 0) = B := ⟨_, rfl⟩
      rw [hB]
      have HB := Lib.hid hB
      clear hs' C hB
      cases B
      · go_wp2
        go_roundw
        case rel => exact ⟨i + 1, by omega, by go_num, fun j y hj hy => by
          rcases Nat.lt_or_ge j i with e | e
          · exact HNO.out j y e hy
          · obtain rfl : j = i := by omega
            rw [HX.out.1, Option.some.injEq] at hy
            subst hy
            exact HB.out, HS.out.trans HS'.out⟩
        case measure => simp [intOf]; omega
      · go_wp2
        go_ret
        exact ⟨i, rfl, .inr ⟨i, x, rfl, HX.out.1, HB.out, HNO.out⟩, HS.out.trans HS'.out⟩
    · go_wp2
      go_ret
      refine ⟨-1, rfl, .inl ⟨rfl, fun x hx => ?_⟩, HS.out⟩
      obtain ⟨j, hj⟩ := List.getElem?_of_mem hx
      exact HNO.out j x (by have := (List.getElem?_eq_some_iff.1 hj).1; omega) hj
theorem contains92 {w : World} {f fb : Nat} {M : Mm} (hM : MemAt w f fb M) (a : Option Addr) (c : Nat) (l : List Int) (h : IntsO w a l) (hl : l.length ≤ 1000) (b1 : Nat) (h1 : w.cell? ⟨b1, 0, none⟩ = some (.pointer (some ⟨f, 0, none⟩))) :
    Calls Try.prog 91 #[.slice a l.length c, .func (.func 92) #[] #[.pointer (some ⟨b1, 0, none⟩)]] w fun e w' => e = .returned (.bool (l.any fun x => M.refs x == 0)) ∧ Same (fun _ => False) w w' := by
  have C := Lib.hid (index92_any hM a c l h hl b1 h1)
  clear h h1 hM
  go_enter Try.func91, Try.ntmps91
  go_wp2_with fail
  refine C.out.mono ?_
  rintro e w' ⟨r, rfl, hr, hs⟩
  have hd := any_first hr
  have HS := Lib.hid (And.intro hs hd)
  clear hr hs hd
  go_wp2
  go_ret
  exact ⟨by rw [← HS.out.2]; rfl, HS.out.1⟩
end Go.Proofs.Ytlbgnmcjdmdjpaa
namespace Go.Proofs.Ytlbgnmcjdmdjpaa
open Go.RowKit Go.Shelf
attribute [local go_sem] Oper.semAt_some
def Mm.attU (root fl : Int) : Mm → List Und → List (Int × Int) → Mm × Int
  | M, _, [] => (M, 0)
  | M, U, (p, fr) :: r => if (M.shared root p fr fl).2 = 0 then Mm.attU root fl (M.shared root p fr fl).1 (U ++ [.page p]) r else ((M.shared root p fr fl).1.undo root U.reverse, 11)
def pairsFrom : Int → List Int → List (Int × Int)
  | _, [] => []
  | p, x :: l => (p, x) :: pairsFrom (p + 1) l
theorem pairsFrom_len : ∀ (l : List Int) (p : Int), (pairsFrom p l).length = l.length
  | [], _ => rfl
  | x :: l, p => by simp only [pairsFrom, List.length_cons, pairsFrom_len l]
theorem pairsFrom_drop : ∀ (l : List Int) (p : Int) (k : Nat) (x : Int), l[k]? = some x → (pairsFrom p l).drop k = (p + k, x) :: (pairsFrom p l).drop (k + 1)
  | [], p, k, x, h => by cases h
  | y :: l, p, 0, x, h => by
    rw [List.getElem?_cons_zero, Option.some.injEq] at h
    subst h
    simp [pairsFrom]
  | y :: l, p, k + 1, x, h => by
    rw [List.getElem?_cons_succ] at h
    have ih := pairsFrom_drop l (p + 1) k x h
    simp only [pairsFrom, List.drop_succ_cons]
    rw [ih]
    congr 2
    omega
def Mm.attach (M : Mm) (s : Spc) (page : Int) (l : List Int) (wr : Bool) : Mm × Int :=
  if l.length = 0 ∨ page < 128 ∨ 240 ≤ page ∨ 240 - page < l.length then (M, 2)
  else if ((List.range l.length).any fun (i : Nat) => (M.walk s.root (page + i)).2.2 == 0) = true then (M, 20)
  else if (l.any fun x => M.refs x == 0) = true then (M, 10)
  else Mm.attU s.root (if wr then 7 else 5) M [] (pairsFrom page l)
/-- What stands while attaching. -/
structure Atl (w W : World) (f fb : Nat) (s : Spc) (sv : Value) (er : Int) (N : Mm) : Prop where
  mem : MemAt W f fb N
  m : W.cell? ⟨w.heap.size, 0, none⟩ = some (.pointer (some ⟨f, 0, none⟩))
  ms : W.shape? w.heap.size = some (24, 1)
  s : Five W (w.heap.size + 1) (.int .i64 s.root) (.int .i64 s.text) (.int .i64 s.data) (.int .i64 s.heap) sv
  ss : W.shape? (w.heap.size + 1) = some (75, 5)
  r : Five W (w.heap.size + 1 + 1) (.int .i64 0) (.int .i64 0) (.int .i64 0) (.int .i64 0) (.slice none 0 0)
  rs : W.shape? (w.heap.size + 1 + 1) = some (75, 5)
  e : W.cell? ⟨w.heap.size + 1 + 1 + 1, 0, none⟩ = some (.int .i64 er)
  ez : W.frozen? ⟨w.heap.size + 1 + 1 + 1, 0, none⟩ = false
  es : W.shape? (w.heap.size + 1 + 1 + 1) = some (25, 1)
  base : Same (fun b => b = fb ∨ w.heap.size ≤ b) w W
  fbl : fb < w.heap.size ∧ f < w.heap.size
theorem Atl.size {w W : World} {f fb : Nat} {s : Spc} {sv : Value} {er : Int} {N : Mm} (h : Atl w W f fb s sv er N) : w.heap.size + 1 + 1 + 1 < W.heap.size := by
  have := World.block_lt_of_cell? _ _ h.e; simpa using this
theorem Atl.call {w W W' : World} {f fb wk : Nat} {s : Spc} {sv : Value} {er : Int} {N N' : Mm} (h : Atl w W f fb s sv er N) (hM : MemAt W' f fb N') (hs : Same (Wf fb w.heap.size wk W) W W') (hwk : w.heap.size + 1 + 1 + 1 < wk) : Atl w W' f fb s sv er N' := by
  have hz := h.size
  have hf := h.fbl
  have n0 : ¬ Wf fb w.heap.size wk W w.heap.size := wf_free h.ms (by omega) (by omega) (by simp)
  have n1 : ¬ Wf fb w.heap.size wk W (w.heap.size + 1) := wf_free h.ss (by omega) (by omega) (by simp)
  have n2 : ¬ Wf fb w.heap.size wk W (w.heap.size + 1 + 1) := wf_free h.rs (by omega) (by omega) (by simp)
  have n3 : ¬ Wf fb w.heap.size wk W (w.heap.size + 1 + 1 + 1) := wf_free h.es (by omega) (by omega) (by simp)
  refine ⟨hM, hs.cell h.m n0, (hs.shp _ (by omega)).trans h.ms, h.s.same hs n1, (hs.shp _ (by omega)).trans h.ss, h.r.same hs n2, (hs.shp _ (by omega)).trans h.rs, hs.cell h.e n3, hs.unfrozen h.e h.ez n3, (hs.shp _ (by omega)).trans h.es, ?_, h.fbl⟩
  refine h.base.trans' (hs.mono (T := fun b => b = fb ∨ w.heap.size ≤ b) (fun b _ hb => ?_)) (fun b hb _ => hb)
  rcases hb with hb | hb | ⟨hb, -⟩ <;> omega
theorem Atl.quiet {w W W' : World} {f fb : Nat} {s : Spc} {sv : Value} {er : Int} {N : Mm} (h : Atl w W f fb s sv er N) (hs : Same (fun _ => False) W W') : Atl w W' f fb s sv er N :=
  h.call (wk := w.heap.size + 1 + 1 + 1 + 1) (h.mem.same0 hs) (hs.mono (fun _ _ h => h.elim)) (by omega)
theorem Atl.err {w W : World} {f fb : Nat} {s : Spc} {sv : Value} {er : Int} {N : Mm} (h : Atl w W f fb s sv er N) (e : Int) : Atl w (W.setCell ⟨w.heap.size + 1 + 1 + 1, 0, none⟩ (.int .i64 e)) f fb s sv e N := by
  have hs : Same (· = w.heap.size + 1 + 1 + 1) W (W.setCell ⟨w.heap.size + 1 + 1 + 1, 0, none⟩ (.int .i64 e)) := (Same.refl _ _).setCell _ (.inr rfl)
  have hz := h.size
  have hf := h.fbl
  exact ⟨h.mem.same hs (by omega) (by omega), hs.cell h.m (by simp; omega), (hs.shp _ (by omega)).trans h.ms, h.s.same hs (by omega), (hs.shp _ (by omega)).trans h.ss, h.r.same hs (by omega), (hs.shp _ (by omega)).trans h.rs, World.cell?_setCell_same _ _ _ h.e, by rw [World.frozen?_setCell]; exact h.ez, (hs.shp _ (by omega)).trans h.es,
    h.base.trans' (hs.mono (T := fun b => b = fb ∨ w.heap.size ≤ b) (fun b _ hb => by omega)) (fun b hb _ => hb), h.fbl⟩
/-- What came in, at a later world. -/
theorem Atl.atts {w W : World} {f fb : Nat} {s : Spc} {sv : Value} {er : Int} {N M : Mm} (h : Atl w W f fb s sv er N) (hM : MemAt w f fb M) {v : Value} {l : List Att} (hv : AttO w v l) : AttO W v l := by
  refine hv.same h.base fun b hb n hn => ?_
  obtain ⟨m, hm⟩ := hM.sh
  rcases hb with rfl | hb
  · rw [hm] at hn; cases hn
  · have : w.shape? b = none := by unfold World.shape?; rw [Array.getElem?_eq_none hb]
    rw [this] at hn; cases hn
theorem Atl.ints {w W : World} {f fb : Nat} {s : Spc} {sv : Value} {er : Int} {N M : Mm} (h : Atl w W f fb s sv er N) (hM : MemAt w f fb M) {a : Option Addr} {l : List Int} (hl : IntsO w a l) : IntsO W a l := by
  refine hl.same h.base fun b n hb hn hor => ?_
  obtain ⟨m, hm⟩ := hM.sh
  rcases hor with rfl | hor
  · rw [hm] at hn; cases hn
  · omega
end Go.Proofs.Ytlbgnmcjdmdjpaa
namespace Go.Proofs.Ytlbgnmcjdmdjpaa
open Go.RowKit Go.Shelf
attribute [local go_sem] Oper.semAt_some
/-- What Attach tells, and leaves. -/
def AttQ (w : World) (f fb : Nat) (s : Spc) (page : Int) (l : List Int) (wr : Bool) (R : Mm × Int) (e : Ending) (w' : World) : Prop :=
  MemAt w' f fb R.1 ∧ Same (· = fb) w w' ∧
    ((R.2 = 0 ∧ ∃ v' l', e = .returned (.tuple #[({ s with atts := l' } : Spc).val v', .int .i64 0]) ∧ AttO w' v' l' ∧ l'.Perm (s.atts ++ [⟨page, l.length, wr⟩]) ∧ l'.Pairwise (fun a b => ¬ b.pg < a.pg)) ∨
    (R.2 ≠ 0 ∧ e = .returned (.tuple #[noSpc, .int .i64 R.2])))
theorem atl_start {w : World} {f fb : Nat} {M : Mm} (hM : MemAt w f fb M) (s : Spc) (sv : Value) (er : Int) : Atl w ((((w.alloc (.cells #[.pointer (some ⟨f, 0, none⟩)] 24)).alloc (.cells #[.int .i64 s.root, .int .i64 s.text, .int .i64 s.data, .int .i64 s.heap, sv] 75)).alloc (.cells #[.int .i64 0, .int .i64 0, .int .i64 0, .int .i64 0, .slice none 0 0] 75)).alloc (.cells #[.int .i64 er] 25)) f fb s sv er M := by
  have hs : Same (fun _ => False) w ((((w.alloc (.cells #[.pointer (some ⟨f, 0, none⟩)] 24)).alloc (.cells #[.int .i64 s.root, .int .i64 s.text, .int .i64 s.data, .int .i64 s.heap, sv] 75)).alloc (.cells #[.int .i64 0, .int .i64 0, .int .i64 0, .int .i64 0, .slice none 0 0] 75)).alloc (.cells #[.int .i64 er] 25)) := (((same_alloc _).alloc _).alloc _).alloc _
  have hl := hM.lt
  refine ⟨hM.same0 hs, ?_, ?_, ?_, ?_, ?_, ?_, ?_, ?_, ?_, hs.mono (fun _ _ h => h.elim), hl.2, hl.1⟩
  · rw [World.cell?_alloc_past _ _ _ (by simp; omega), World.cell?_alloc_past _ _ _ (by simp; omega), World.cell?_alloc_past _ _ _ (by simp), World.cell?_alloc_at _ _ _ _ rfl]; rfl
  · simp only [shape_alloc, World.size_alloc]; rw [if_neg (by omega), if_neg (by omega), if_neg (by omega)]; rfl
  · have h : Five ((w.alloc (.cells #[.pointer (some ⟨f, 0, none⟩)] 24)).alloc (.cells #[.int .i64 s.root, .int .i64 s.text, .int .i64 s.data, .int .i64 s.heap, sv] 75)) (w.alloc (.cells #[.pointer (some ⟨f, 0, none⟩)] 24)).heap.size (.int .i64 s.root) (.int .i64 s.text) (.int .i64 s.data) (.int .i64 s.heap) sv := five_new _ _ _ _ _ _
    simp only [World.size_alloc] at h
    exact (h.same (same_alloc _) (by simp)).same (same_alloc _) (by simp)
  · simp only [shape_alloc, World.size_alloc]; rw [if_neg (by omega), if_neg (by omega)]; rfl
  · have h := five_new ((w.alloc (.cells #[.pointer (some ⟨f, 0, none⟩)] 24)).alloc (.cells #[.int .i64 s.root, .int .i64 s.text, .int .i64 s.data, .int .i64 s.heap, sv] 75)) (.int .i64 0) (.int .i64 0) (.int .i64 0) (.int .i64 0) (.slice none 0 0)
    simp only [World.size_alloc] at h
    exact h.same (same_alloc _) (by simp)
  · simp only [shape_alloc, World.size_alloc]; rw [if_neg (by omega)]; rfl
  · rw [World.cell?_alloc_at _ _ _ _ (by simp)]; rfl
  · rw [World.frozen?_alloc_at _ _ _ _ (by simp)]
  · simp only [shape_alloc, World.size_alloc]; rfl
/-- Zeros and an error are laid where the results stand. -/
theorem Atl.leave {w W W' : World} {f fb : Nat} {s : Spc} {sv : Value} {er : Int} {N : Mm} (h : Atl w W f fb s sv er N) (v0 v1 v2 v3 v4 : Value) (e : Int)
    (hW : W' = (((((W.setCell ⟨w.heap.size + 1 + 1, 0, none⟩ v0).setCell ⟨w.heap.size + 1 + 1, 1, none⟩ v1).setCell ⟨w.heap.size + 1 + 1, 2, none⟩ v2).setCell ⟨w.heap.size + 1 + 1, 3, none⟩ v3).setCell ⟨w.heap.size + 1 + 1, 4, none⟩ v4).setCell ⟨w.heap.size + 1 + 1 + 1, 0, none⟩ (.int .i64 e)) :
    (loadVar 75 ⟨w.heap.size + 1 + 1, 0, none⟩).run Try.prog W' = .ok (.agg #[v0, v1, v2, v3, v4]) W' ∧ (loadVar 25 ⟨w.heap.size + 1 + 1 + 1, 0, none⟩).run Try.prog W' = .ok (.int .i64 e) W' ∧ W'.cell? ⟨w.heap.size + 1 + 1 + 1, 0, none⟩ = some (.int .i64 e) ∧
      MemAt W' f fb N ∧ Same (fun b => b = fb ∨ w.heap.size ≤ b) w W' ∧ Same (fun k => k = w.heap.size + 1 + 1 + 1 ∨ k = w.heap.size + 1 + 1) W W' := by
  obtain ⟨⟨k0, k1, k2, k3, k4⟩, fe, hs⟩ := put5f hW h.r.c0 h.r.c1 h.r.c2 h.r.c3 h.r.c4 h.e (by omega)
  have hz := h.size
  have hf := h.fbl
  exact ⟨loadVar75 _ _ _ _ _ _ _ k0 k1 k2 k3 k4, loadVar25 _ _ _ fe, fe, h.mem.same hs (by omega) (by omega), h.base.trans' (hs.mono (T := fun b => b = fb ∨ w.heap.size ≤ b) (fun b _ hb => by omega)) (fun b hb _ => hb), hs⟩
theorem Atl.leave_d {w W W' : World} {f fb : Nat} {s : Spc} {sv : Value} {er : Int} {N : Mm} (h : Atl w W f fb s sv er N) (v0 v1 v2 v3 v4 : Value) (e : Int)
    (hW : W' = ((((((W.setCell ⟨w.heap.size + 1 + 1, 0, none⟩ v0).setCell ⟨w.heap.size + 1 + 1, 1, none⟩ v1).setCell ⟨w.heap.size + 1 + 1, 2, none⟩ v2).setCell ⟨w.heap.size + 1 + 1, 3, none⟩ v3).setCell ⟨w.heap.size + 1 + 1, 4, none⟩ v4).setCell ⟨w.heap.size + 1 + 1 + 1, 0, none⟩ (.int .i64 e)).drew) :
    Five W' (w.heap.size + 1 + 1) v0 v1 v2 v3 v4 ∧ W'.cell? ⟨w.heap.size + 1 + 1 + 1, 0, none⟩ = some (.int .i64 e) ∧
      MemAt W' f fb N ∧ Same (fun b => b = fb ∨ w.heap.size ≤ b) w W' ∧ Same (fun k => k = w.heap.size + 1 + 1 + 1 ∨ k = w.heap.size + 1 + 1) W W' := by
  obtain ⟨⟨k0, k1, k2, k3, k4⟩, fe, hs⟩ := put5e hW h.r.c0 h.r.c1 h.r.c2 h.r.c3 h.r.c4 h.e (by omega)
  have hz := h.size
  have hf := h.fbl
  exact ⟨⟨k0, k1, k2, k3, k4, fun o => by rw [hW]; simp only [World.frozen?_setCell, World.frozen?_drew]; exact h.r.fz o⟩, fe, h.mem.same hs (by omega) (by omega), h.base.trans' (hs.mono (T := fun b => b = fb ∨ w.heap.size ≤ b) (fun b _ hb => by omega)) (fun b hb _ => hb), hs⟩
end Go.Proofs.Ytlbgnmcjdmdjpaa
namespace Go.Proofs.Ytlbgnmcjdmdjpaa
open Go.RowKit Go.Shelf
attribute [local go_sem] Oper.semAt_some
theorem base_fb {w W : World} {fb : Nat} (h : Same (fun b => b = fb ∨ w.heap.size ≤ b) w W) : Same (· = fb) w W := h.mono (fun b hb h => by omega)
set_option maxHeartbeats 1600000 in
/-- Wrong arguments. -/
theorem attach_arg {w : World} {f fb : Nat} {M : Mm} (hM : MemAt w f fb M) (s : Spc) (va : Option Addr) (vc : Nat) (page : Int) (hp : In64 page) (a : Option Addr) (c : Nat) (l : List Int) (hll : l.length ≤ 1000) (wr : Bool)
    (hbad : l.length = 0 ∨ page < 128 ∨ 240 ≤ page ∨ 240 - page < l.length) :
    Calls Try.prog 51 #[.pointer (some ⟨f, 0, none⟩), s.val (.slice va s.atts.length vc), .int .i64 page, .slice a l.length c, .bool wr] w (AttQ w f fb s page l wr (M, 2)) := by
  have hS := atl_start hM s (.slice va s.atts.length vc) 2
  have HS := Lib.hid hS
  obtain ⟨hp1, hp2⟩ := hp
  clear hS hM
  have key : ∀ (W : World) (tmps : Array Value), Atl w W f fb s (.slice va s.atts.length vc) 2 M → tmps.getD 10 undef = .pointer (some ⟨w.heap.size + 1 + 1, 0, none⟩) → tmps.getD 11 undef = .pointer (some ⟨w.heap.size + 1 + 1 + 1, 0, none⟩) →
      ∃ v, (results Try.f51 tmps).run Try.prog W = .ok v W ∧ AttQ w f fb s page l wr (M, 2) (.returned v) W := fun W tmps h h1 h2 =>
    ⟨_, results_cells2 rfl h1 h2 (loadVar75 _ _ _ _ _ _ _ h.r.c0 h.r.c1 h.r.c2 h.r.c3 h.r.c4) (loadVar25 _ _ _ h.e), h.mem, base_fb h.base, .inr ⟨by simp, rfl⟩⟩
  have KEY := Lib.hid key
  clear key
  unfold Spc.val
  by_cases b1 : l.length = 0
  · have d1 : ((l.length : Int) == 0) = true := by simp [b1]
    have d1' : (l.length == 0) = true := by simp [b1]
    clear hbad b1
    go_enter_defers Try.func51, Try.ntmps51
    go_wp2
    exact KEY.out _ _ HS.out (by rfl) (by rfl)
  have d1 : ((l.length : Int) == 0) = false := by simp; exact fun e => b1 (by rw [e]; rfl)
  have d1' : (l.length == 0) = false := by simpa using b1
  by_cases b2 : page < 128
  · have d2 : decide (page < 128) = true := by simpa using b2
    clear hbad b1 b2
    go_enter_defers Try.func51, Try.ntmps51
    go_wp2
    exact KEY.out _ _ HS.out (by rfl) (by rfl)
  have d2 : decide (page < 128) = false := by simpa using b2
  by_cases b3 : 240 ≤ page
  · have d3 : decide (240 ≤ page) = true := by simpa using b3
    clear hbad b1 b2 b3
    go_enter_defers Try.func51, Try.ntmps51
    go_wp2
    exact KEY.out _ _ HS.out (by rfl) (by rfl)
  have d3 : decide (240 ≤ page) = false := by simpa using b3
  have d4 : decide (240 - page < l.length) = true := by simp; omega
  have hsub : IntKind.i64.wrap (240 - page) = 240 - page := IntWalk.i64_in _ (by omega)
  clear hbad b1
  go_enter_defers Try.func51, Try.ntmps51
  go_wp2
  exact KEY.out _ _ HS.out (by rfl) (by rfl)
end Go.Proofs.Ytlbgnmcjdmdjpaa
namespace Go.Proofs
open Go.Shelf
def Try.cmpInt_ren : Go.Shelf.Ren := ⟨fun | 5 => 95 | 7 => 119 | n => n, fun | 22 => 3 | 3 => 3 | 4 => 4 | n => n, fun | n => n⟩
theorem Try.cmpInt : Go.Proofs.SlLaysC2.n5 Try.prog Try.cmpInt_ren := {
  mixed := by kernel_rfl
  f5 := ⟨Try.f95.name, by decide, Try.func95.trans (congrArg some (by kernel_rfl))⟩
  f7 := ⟨Try.f119.name, by decide, Try.func119.trans (congrArg some (by kernel_rfl))⟩
  t3 := Try.underlying3
  a3 := Try.isAgg3
  z3 := Try.sizeOf3
  v3 := Try.zeroValue3
  t4 := Try.underlying4
  a4 := Try.isAgg4
  z4 := Try.sizeOf4
  v4 := Try.zeroValue4
  t22 := Try.underlying3
  a22 := Try.isAgg3
  z22 := Try.sizeOf3
  v22 := Try.zeroValue3 }
def Try.sortAtt_ren : Go.Shelf.Ren := ⟨fun | 6 => 93 | 15 => 118 | 14 => 117 | 28 => 134 | 29 => 135 | 20 => 126 | 21 => 127 | 22 => 128 | 23 => 129 | 24 => 130 | 25 => 131 | 26 => 132 | 27 => 133 | 46 => 138 | 47 => 139 | 48 => 140 | 49 => 141 | 50 => 142 | 57 => 145 | n => n, fun | 22 => 73 | 24 => 164 | 25 => 166 | 3 => 3 | 39 => 43 | 0 => 0 | 53 => 206 | 55 => 208 | 4 => 4 | 46 => 199 | 45 => 198 | 50 => 203 | 5 => 5 | 9 => 9 | 66 => 210 | 70 => 214 | 76 => 219 | 77 => 124 | n => n, fun | n => n⟩
theorem Try.sortAtt : Go.Proofs.SlLaysF0.n6 Try.prog Try.sortAtt_ren := {
  mixed := by kernel_rfl
  f6 := ⟨Try.f93.name, by decide, Try.func93.trans (congrArg some (by kernel_rfl))⟩
  f14 := ⟨Try.f117.name, by decide, Try.func117.trans (congrArg some (by kernel_rfl))⟩
  f15 := Try.func118.trans (congrArg some (by kernel_rfl))
  f20 := ⟨Try.f126.name, by decide, Try.func126.trans (congrArg some (by kernel_rfl))⟩
  f21 := ⟨Try.f127.name, by decide, Try.func127.trans (congrArg some (by kernel_rfl))⟩
  f22 := ⟨Try.f128.name, by decide, Try.func128.trans (congrArg some (by kernel_rfl))⟩
  f23 := ⟨Try.f129.name, by decide, Try.func129.trans (congrArg some (by kernel_rfl))⟩
  f24 := ⟨Try.f130.name, by decide, Try.func130.trans (congrArg some (by kernel_rfl))⟩
  f25 := ⟨Try.f131.name, by decide, Try.func131.trans (congrArg some (by kernel_rfl))⟩
  f26 := ⟨Try.f132.name, by decide, Try.func132.trans (congrArg some (by kernel_rfl))⟩
  f27 := ⟨Try.f133.name, by decide, Try.func133.trans (congrArg some (by kernel_rfl))⟩
  f28 := Try.func134.trans (congrArg some (by kernel_rfl))
  f29 := Try.func135.trans (congrArg some (by kernel_rfl))
  f46 := ⟨Try.f138.name, by decide, Try.func138.trans (congrArg some (by kernel_rfl))⟩
  f47 := Try.func139.trans (congrArg some (by kernel_rfl))
  f48 := Try.func140.trans (congrArg some (by kernel_rfl))
  f49 := ⟨Try.f141.name, by decide, Try.func141.trans (congrArg some (by kernel_rfl))⟩
  f50 := ⟨Try.f142.name, by decide, Try.func142.trans (congrArg some (by kernel_rfl))⟩
  f57 := ⟨Try.f145.name, by decide, Try.func145.trans (congrArg some (by kernel_rfl))⟩
  t0 := Try.underlying0
  a0 := Try.isAgg0
  z0 := Try.sizeOf0
  v0 := Try.zeroValue0
  t3 := Try.underlying3
  a3 := Try.isAgg3
  z3 := Try.sizeOf3
  v3 := Try.zeroValue3
  t4 := Try.underlying4
  a4 := Try.isAgg4
  z4 := Try.sizeOf4
  v4 := Try.zeroValue4
  t5 := Try.underlying5
  a5 := Try.isAgg5
  z5 := Try.sizeOf5
  v5 := Try.zeroValue5
  t9 := Try.underlying9
  a9 := Try.isAgg9
  z9 := Try.sizeOf9
  v9 := Try.zeroValue9
  t22 := Try.underlying73
  a22 := Try.isAgg73
  z22 := Try.sizeOf73
  v22 := Try.zeroValue73
  t25 := Try.underlying166
  a25 := Try.isAgg166
  z25 := Try.sizeOf166
  v25 := Try.zeroValue166
  t39 := Try.underlying43
  a39 := Try.isAgg43
  z39 := Try.sizeOf43
  v39 := Try.zeroValue43
  t45 := Try.underlying198
  a45 := Try.isAgg198
  z45 := Try.sizeOf198
  v45 := Try.zeroValue198
  t46 := Try.underlying199
  a46 := Try.isAgg199
  z46 := Try.sizeOf199
  v46 := Try.zeroValue199
  t50 := Try.underlying203
  a50 := Try.isAgg203
  z50 := Try.sizeOf203
  v50 := Try.zeroValue203
  t53 := Try.underlying206
  a53 := Try.isAgg206
  z53 := Try.sizeOf206
  v53 := Try.zeroValue206
  t55 := Try.underlying208
  a55 := Try.isAgg208
  z55 := Try.sizeOf208
  v55 := Try.zeroValue208
  t66 := Try.underlying210
  a66 := Try.isAgg210
  z66 := Try.sizeOf210
  v66 := Try.zeroValue210
  t70 := Try.underlying214
  a70 := Try.isAgg214
  z70 := Try.sizeOf214
  v70 := Try.zeroValue214
  t76 := Try.underlying219
  a76 := Try.isAgg219
  z76 := Try.sizeOf219
  v76 := Try.zeroValue219
  t77 := Try.underlying124
  a77 := Try.isAgg124
  z77 := Try.sizeOf124
  v77 := Try.zeroValue124 }
end Go.Proofs
namespace Go.Proofs.Ytlbgnmcjdmdjpaa
open Go.RowKit Go.Shelf Go.Lib Go.Sort
attribute [local go_sem] Oper.semAt_some
def cmpA (a b : Att) : Int := Lib.compareInt a.pg b.pg
instance : Inhabited Att := ⟨⟨0, 0, false⟩⟩
def encA (a : Att) : List Value := [.int .i64 a.pg, .int .i64 a.ct, .bool a.wr]
theorem cmpA_lt (x y : Att) : ltOf cmpA x y = decide (x.pg < y.pg) := by
  unfold ltOf cmpA Lib.compareInt
  by_cases h1 : x.pg < y.pg
  · simp [h1]
  · by_cases h2 : y.pg < x.pg <;> simp [h1, h2]
theorem swoA : SWO (ltOf cmpA) where
  irrefl x := by rw [cmpA_lt]; simp
  trans x y z h1 h2 := by
    rw [cmpA_lt] at *
    simp only [decide_eq_true_eq] at *
    omega
  ntrans x y z h1 h2 := by
    rw [cmpA_lt] at *
    simp only [decide_eq_false_iff_not] at *
    omega
set_option maxRecDepth 100000 in
theorem compare94 (W : World) (p q : Att) :
    Calls Try.prog 94 #[.agg (encA p).toArray, .agg (encA q).toArray] W fun e w' => e = .returned (.int .i64 (cmpA p q)) ∧ ∃ n os, w' = grow (W.drewN n) os := by
  have hcon := fun x y W' => AnyG.cmp_Compare_int Try.cmpInt x y W'
  change ∀ x y W', Calls Try.prog 95 _ _ _ at hcon
  unfold cmpA
  have hc1 := hcon p.pg q.pg
  clear hcon
  generalize Lib.compareInt p.pg q.pg = r1 at *
  have HC := Lib.hid hc1
  clear hc1
  have hg : (W.alloc (.cells #[.int .i64 p.pg, .int .i64 p.ct, .bool p.wr] 164)).alloc (.cells #[.int .i64 q.pg, .int .i64 q.ct, .bool q.wr] 164) = grow (W.drewN 0) (#[Obj.cells #[.int .i64 p.pg, .int .i64 p.ct, .bool p.wr] 164] ++ #[Obj.cells #[.int .i64 q.pg, .int .i64 q.ct, .bool q.wr] 164]) := by
    rw [alloc_eq_grow, alloc_eq_grow, grow_grow]; rfl
  have HG := Lib.hid hg
  clear hg
  show Calls Try.prog 94 #[.agg #[.int .i64 p.pg, .int .i64 p.ct, .bool p.wr], .agg #[.int .i64 q.pg, .int .i64 q.ct, .bool q.wr]] W _
  go_enter Try.func94, Try.ntmps94
  go_wp2_with fail
  refine (HC.out _).mono ?_
  rintro e w' ⟨rfl, rfl⟩
  go_wp2
  go_ret
  exact ⟨rfl, 0, _, HG.out⟩
theorem same_sortA (w : World) (blk off n : Nat) (d : Array Att) (os : Array Obj) : Same (· = blk) w (sortWorldK encA 3 w blk off n d os) := by
  unfold sortWorldK
  have h1 : Same (· = blk) w (putRowK encA 3 (Sort.ahead w n) blk off d) := by
    unfold putRowK putRow
    refine same_of_heap rfl rfl rfl (by simp [mapBlock]) (fun k hk => ?_) (fun k hk => ?_)
    · simp only [mapBlock, Array.getElem?_modify]
      rw [if_neg (fun e => hk e.symm)]; rfl
    · subst hk
      have hh2 : (mapBlock (Sort.ahead w n) k (putCells id off (flatK encA 3 d))).heap[k]? = (w.heap[k]?).map (onCells (putCells id off (flatK encA 3 d))) := by
        simp only [mapBlock, Array.getElem?_modify, if_true]; rfl
      unfold World.shape?
      rw [hh2]
      cases hh : w.heap[k]? with
      | none => rfl
      | some o => cases o <;> simp [onCells, putCells]
  have h2 : ∀ w1 : World, Same (fun _ => False) w1 (grow w1 os) := by
    intro w1
    refine ⟨rfl, rfl, rfl, by simp [grow], fun k hk _ => ?_, fun k hk => ?_⟩
    · simp only [grow]; rw [Array.getElem?_append_left hk]
    · simp only [World.shape?, grow]; rw [Array.getElem?_append_left hk]
  exact h1.trans ((h2 _).mono (fun _ _ h => h.elim))
end Go.Proofs.Ytlbgnmcjdmdjpaa
namespace Go.Proofs.Ytlbgnmcjdmdjpaa
open Go.RowKit Go.Shelf Go.Lib Go.Sort
attribute [local go_sem] Oper.semAt_some
theorem flatA_get : ∀ (ks : List Att) (t : Nat), t < ks.length * 3 → (flatA ks)[t]? = some ((encA ks[t / 3]!)[t % 3]!)
  | [], t, h => by simp at h
  | k :: ks, 0, _ => by simp [flatA, encA]
  | k :: ks, 1, _ => by simp [flatA, encA]
  | k :: ks, 2, _ => by simp [flatA, encA]
  | k :: ks, t + 3, h => by
    have ih := flatA_get ks t (by simp at h; omega)
    have e1 : (t + 3) / 3 = t / 3 + 1 := by omega
    have e2 : (t + 3) % 3 = t % 3 := by omega
    rw [e1, e2]
    simpa [flatA] using ih
theorem encA_len (x : Att) : (encA x).length = 3 := rfl
theorem encA_one (x : Att) : ∀ v ∈ encA x, v.oneCell' = true := fun v hv => by
  simp [encA] at hv; rcases hv with rfl | rfl | rfl <;> rfl
set_option maxHeartbeats 1000000 in
theorem sort_atts {w : World} {base : Nat} {v : Value} {l : List Att} (h : w.ownsRow base 164 3 v l.length (flatA l)) (hl : l.length ≤ 2000) (hne : l ≠ []) :
    Calls Try.prog 93 #[v, .func (.func 94) #[] #[]] w fun e w' => e = .returned (.tuple #[]) ∧ ∃ l', l'.Perm l ∧ l'.Pairwise (fun a b => ¬ b.pg < a.pg) ∧ w'.ownsRow base 164 3 v l'.length (flatA l') ∧ Same (fun b => v.ownBlock = some b) w w' := by
  obtain ⟨hlen, ⟨rfl, e⟩ | ⟨g, cap, cur, rfl, hb, hh, h1, h2, h3, h4⟩⟩ := h
  · exact absurd (List.eq_nil_of_length_eq_zero e) hne
  have hg2 : g < w.heap.size := (Array.getElem?_eq_some_iff.1 hh).1
  have eg : ∀ args w, (callFunc 94 args).run Try.prog w = .ok (.enter 94 args) w := enters_of Try.func94 (by kernel_rfl) rfl
  have hH : HoldsK encA 3 w g 0 l.toArray := fun j hj => by
    have hj' : j < l.length * 3 := by simpa using hj
    have hg := flatA_get l j hj'
    rw [get_flatK _ _ _ _ (by simpa using hj')]
    rw [← h4, List.getElem?_take, if_pos (by omega)] at hg
    have e0 : l.toArray[j / 3]! = l[j / 3]! := by simp
    rw [e0]
    refine ⟨?_, ?_⟩
    · unfold World.cell?
      simp only [hh, Nat.zero_add]
      simpa using hg
    · unfold World.frozen?
      simp only [hh]
      simp
  have hcon := AnyQ.slices_SortFunc Try.sortAtt 3 Try.isAgg164 Try.sizeOf164 encA encA_len encA_one cmpA swoA 94 #[] g 0 cap l.toArray w eg (fun _ _ _ _ x y => compare94 _ x y) hH hg2 (by simp; omega)
  change Calls Try.prog 93 _ _ _ at hcon
  rw [List.size_toArray] at hcon
  refine hcon.mono ?_
  rintro e w' ⟨rfl, d', n, os, ⟨hz, _, hper⟩, hsd, rfl⟩
  have hz' : d'.size = l.length := by simpa using hz
  have hperm : d'.toList.Perm l := by
    have := hper
    rw [show d'.extract 0 l.length = d' by rw [← hz']; simp] at this
    simpa using this
  have hpw : d'.toList.Pairwise (fun a b => ¬ b.pg < a.pg) := by
    rw [List.pairwise_iff_getElem]
    intro i j hi hj hij
    have := hsd i j (Nat.zero_le _) hij (by simpa [hz'] using hj)
    rw [cmpA_lt] at this
    simp only [Array.length_toList] at hi hj
    simpa [hi, hj] using this
  have hH' := holdsK_sortWorldK_c encA 3 w g 0 l.toArray d' n os hH hg2 (by simpa using hz')
  obtain ⟨cur', hc1, hc2⟩ : ∃ cur', (sortWorldK encA 3 w g 0 n d' os).heap[g]? = some (.cells cur' 164 (0, 0)) ∧ cur'.size = cur.size := by
    have hs := (same_sortA w g 0 n d' os).shp g hg2
    unfold sortWorldK putRowK putRow grow
    simp only
    rw [Array.getElem?_append_left (by simp [mapBlock]; exact hg2)]
    simp only [mapBlock, Array.getElem?_modify, if_true]
    show ∃ cur', (w.heap[g]?).map _ = _ ∧ _
    rw [hh]
    exact ⟨_, rfl, by simp [putCells]⟩
  refine ⟨rfl, d'.toList, hperm, hpw, ⟨?_, .inr ⟨g, cap, cur', ?_, hb, hc1, ?_, h2, by rw [hc2]; exact h3, ?_⟩⟩, (same_sortA w g 0 n d' os).mono (fun b _ e => by subst e; rfl)⟩
  · rw [flatA_len]
  · simp [hz']
  · simpa [hz'] using h1
  · apply List.ext_getElem?
    intro t
    simp only [Array.length_toList]
    by_cases ht : t < d'.size * 3
    · rw [List.getElem?_take, if_pos ht, flatA_get _ _ (by simpa using ht)]
      have ht' : t < (flatK encA 3 d').size := by simpa using ht
      have := (hH' t ht').1
      rw [get_flatK _ _ _ _ (by simpa using ht)] at this
      unfold World.cell? at this
      simp only [hc1, Nat.zero_add] at this
      have e0 : d'.toList[t / 3]! = d'[t / 3]! := by
        obtain ⟨l'⟩ := d'
        simp
      rw [e0]
      simpa using this
    · rw [List.getElem?_eq_none (by simp; omega), List.getElem?_eq_none (by rw [flatA_len]; simp; omega)]
end Go.Proofs.Ytlbgnmcjdmdjpaa
namespace Go.Proofs.Ytlbgnmcjdmdjpaa
open Go.RowKit Go.Shelf
attribute [local go_sem] Oper.semAt_some
set_option maxHeartbeats 30000000 in
set_option maxRecDepth 100000 in
theorem attach_any {w : World} {f fb : Nat} {M : Mm} (hM : MemAt w f fb M) (s : Spc) (va : Option Addr) (vc : Nat) (hv : AttO w (.slice va s.atts.length vc) s.atts) (hal : s.atts.length ≤ 500) (page : Int) (hp : In64 page) (a : Option Addr) (c : Nat) (l : List Int) (hl : IntsO w a l) (hll : l.length ≤ 1000) (wrt : Bool) :
    Calls Try.prog 51 #[.pointer (some ⟨f, 0, none⟩), s.val (.slice va s.atts.length vc), .int .i64 page, .slice a l.length c, .bool wrt] w (AttQ w f fb s page l wrt (M.attach s page l wrt)) := by
  by_cases hbad : l.length = 0 ∨ page < 128 ∨ 240 ≤ page ∨ 240 - page < l.length
  · rw [show M.attach s page l wrt = (M, 2) by unfold Mm.attach; rw [if_pos hbad]]
    exact attach_arg hM s va vc page hp a c l hll wrt hbad
  obtain ⟨R, hR⟩ : ∃ R, R = M.attach s page l wrt := ⟨_, rfl⟩
  rw [← hR]
  have hm := hR
  unfold Mm.attach at hm
  rw [if_neg hbad] at hm
  have b1 : l.length ≠ 0 := fun e => hbad (.inl e)
  have b2 : 128 ≤ page := by omega
  have b3 : page < 240 := by omega
  have b4 : (l.length : Int) ≤ 240 - page := by omega
  obtain ⟨A, hA⟩ : ∃ A, A = ((((w.alloc (.cells #[.pointer (some ⟨f, 0, none⟩)] 24)).alloc (.cells #[.int .i64 s.root, .int .i64 s.text, .int .i64 s.data, .int .i64 s.heap, .slice va s.atts.length vc] 75)).alloc (.cells #[.int .i64 0, .int .i64 0, .int .i64 0, .int .i64 0, .slice none 0 0] 75)).alloc (.cells #[.int .i64 0] 25)) := ⟨_, rfl⟩
  have hS : Atl w A f fb s (.slice va s.atts.length vc) 0 M := by rw [hA]; exact atl_start hM s _ 0
  have H := Lib.hid (And.intro hM (And.intro hv hl))
  have HS := Lib.hid hS
  have HA := Lib.hid hA
  have HM := Lib.hid hm
  have key : ∀ (W : World) (tmps : Array Value) (e : Int) (k0 k1 : Int), e ≠ 0 → R = (M, e) → Atl w W f fb s (.slice va s.atts.length vc) k0 M → ∀ W', W' = (((((W.setCell ⟨w.heap.size + 1 + 1, 0, none⟩ (.int .i64 0)).setCell ⟨w.heap.size + 1 + 1, 1, none⟩ (.int .i64 0)).setCell ⟨w.heap.size + 1 + 1, 2, none⟩ (.int .i64 0)).setCell ⟨w.heap.size + 1 + 1, 3, none⟩ (.int .i64 0)).setCell ⟨w.heap.size + 1 + 1, 4, none⟩ (.slice none 0 0)).setCell ⟨w.heap.size + 1 + 1 + 1, 0, none⟩ (.int .i64 e) →
      tmps.getD 10 undef = .pointer (some ⟨w.heap.size + 1 + 1, 0, none⟩) → tmps.getD 11 undef = .pointer (some ⟨w.heap.size + 1 + 1 + 1, 0, none⟩) → ∃ v, (results Try.f51 tmps).run Try.prog W' = .ok v W' ∧ AttQ w f fb s page l wrt R (.returned v) W' := fun W tmps e k0 k1 he hr h W' hW h1 h2 => by
    obtain ⟨l1, l2, l3, l4, l5, l6⟩ := h.leave _ _ _ _ _ e hW
    rw [hr]
    exact ⟨_, results_cells2 rfl h1 h2 l1 l2, l4, base_fb l5, .inr ⟨he, rfl⟩⟩
  have KEY := Lib.hid key
  have d1 : ((l.length : Int) == 0) = false := by simp; exact fun e => b1 (by rw [e]; rfl)
  have d1' : (l.length == 0) = false := by simpa using b1
  have d2 : decide (page < 128) = false := by simp; omega
  have d3 : decide (240 ≤ page) = false := by simp; omega
  have d4 : decide (240 - page < l.length) = false := by simp; omega
  have hsub : IntKind.i64.wrap (240 - page) = 240 - page := IntWalk.i64_in _ (by omega)
  clear hbad hR hm hS hA hM hv hl key b1 hp
  unfold Spc.val
  go_enter_defers Try.func51, Try.ntmps51
  go_wp2_with fail
  rw [← HA.out]
  go_loopw [46] (fun v46 x => ∃ i : Nat, i ≤ l.length ∧ v46 = .int .i64 i ∧ (∀ j : Nat, j < i → (M.walk s.root (page + j)).2.2 ≠ 0) ∧ Same (fun _ => False) A x) (fun v46 _ => l.length - (intOf v46).toNat)
  case atStart => exact ⟨0, by omega, rfl, fun j hj => absurd hj (by omega), Same.refl _ _⟩
  case round =>
    obtain ⟨i, hi, rfl, hno, hs⟩ := hrel
    have hS1 := HS.out.quiet hs
    have HNO := Lib.hid (And.intro hno hs)
    have HS1 := Lib.hid hS1
    have c0 := hS1.m
    have c1 := hS1.s.c0
    clear hno hs
    by_cases hlt : i < l.length
    · have hadd : IntKind.i64.wrap (page + i) = page + i := IntWalk.i64_in _ (by omega)
      have hww := walk_any hS1.mem s.root (page + i) (by constructor <;> omega)
      obtain ⟨⟨x1, x2, er⟩, hx⟩ : ∃ x, M.walk s.root (page + i) = x := ⟨_, rfl⟩
      rw [hx] at hww
      simp only at hww
      have C := Lib.hid hww
      have HX := Lib.hid hx
      clear hww hx hS1
      go_wp2_with fail
      refine C.out.mono ?_
      rintro e w2 ⟨rfl, hs2⟩
      have hS2 := HS1.out.quiet hs2
      have HS2 := Lib.hid (And.intro hS2 hs2)
      by_cases he : er = 0
      · subst he
        have f0 := hS2.r.c0
        have f1 := hS2.r.c1
        have f2 := hS2.r.c2
        have f3 := hS2.r.c3
        have f4 := hS2.r.c4
        have z0 := hS2.r.fz 0
        have z1 := hS2.r.fz 1
        have z2 := hS2.r.fz 2
        have z3 := hS2.r.fz 3
        have z4 := hS2.r.fz 4
        have g0 := hS2.e
        have g1 := hS2.ez
        clear C hS2 hs2 c0 c1
        go_wp2
        refine KEY.out _ _ 20 0 0 (by decide) ?_ HS2.out.1 _ rfl (by rfl) (by rfl)
        have hm := HM.out
        rw [if_pos (List.any_eq_true.2 ⟨i, List.mem_range.2 hlt, by rw [HX.out]; rfl⟩)] at hm
        exact hm
      · have hb : (er == 0) = false := by simpa using he
        have HE := Lib.hid he
        clear C hS2 hs2 c0 c1 he
        go_wp2
        go_roundw
        case rel =>
          obtain ⟨hno, hs⟩ := HNO.out
          refine ⟨i + 1, by omega, by go_num, fun j hj => ?_, hs.trans HS2.out.2⟩
          rcases Nat.lt_or_ge j i with e | e
          · exact hno j e
          · obtain rfl : j = i := by omega
            rw [HX.out]
            exact HE.out
        case measure => simp [intOf]; omega
    · have hil : i = l.length := by omega
      subst hil
      obtain ⟨hMw, hvw, hlw⟩ := H.out
      have hany : ((List.range l.length).any fun (i : Nat) => (M.walk s.root (page + i)).2.2 == 0) = false := List.any_eq_false.2 (fun j hj => by
        have := HNO.out.1 j (List.mem_range.1 hj)
        simpa using this)
      have hm := HM.out
      rw [hany] at hm
      simp only [Bool.false_eq_true, if_false] at hm
      have hl1 := hS1.ints hMw hlw
      have C := Lib.hid (contains92 hS1.mem a c l hl1 hll w.heap.size c0)
      have HM := Lib.hid hm
      clear hlt hi hS1 hMw hvw hlw hany hm hl1
      go_wp2_with fail
      refine C.out.mono ?_
      rintro e w2 ⟨rfl, hs2⟩
      have hS2 := HS1.out.quiet hs2
      have HS2 := Lib.hid (And.intro hS2 hs2)
      cases hrf : l.any fun x => M.refs x == 0
      · obtain ⟨fl, hfl⟩ : ∃ fl : Int, fl = if wrt then 7 else 5 := ⟨_, rfl⟩
        have hm := HM.out
        rw [hrf] at hm
        simp only [Bool.false_eq_true, if_false] at hm
        rw [← hfl] at hm
        obtain ⟨L, hL⟩ : ∃ L, L = pairsFrom page l := ⟨_, rfl⟩
        rw [← hL] at hm
        have hof := of_work hS2.mem s va s.atts.length vc
        have C1 := Lib.hid hof
        have HMM := Lib.hid (And.intro hm hL)
        have HFL := Lib.hid hfl
        have j1 := hS2.m
        have j2 := hS2.s.c0
        have j3 := hS2.s.c1
        have j4 := hS2.s.c2
        have j5 := hS2.s.c3
        have j6 := hS2.s.c4
        clear C hS2 hs2 c0 c1 hrf hm hL hof HNO hfl
        unfold Spc.val at C1
        have step : ∃ fl' : Int, fl' = fl := ⟨_, rfl⟩
        clear step
        cases wrt
        · have hfl2 := HFL.out
          simp only [Bool.false_eq_true, if_false, if_true] at hfl2
          subst hfl2
          go_wp2_with fail
          refine C1.out.mono ?_
          rintro e w3 ⟨wk, hwk, rfl, hW1, hs3⟩
          have hS3 := HS2.out.1.quiet hs3
          have hz3 := hS3.size
          have hzz := hs3.size
          have hwk2 : w.heap.size + 1 + 1 + 1 < wk := by have := HS2.out.1.size; omega
          have hW2 : WorkAt w3 w.heap.size wk f s.root (fun x => x < w3.heap.size) [] := hW1.base (by have := HS2.out.1.size; omega)
          have HB := Lib.hid hS3
          clear C1 hW1 hs3 j1 j2 j3 j4 j5 j6 hzz hz3
          go_wp2
          go_loopw [77] (fun p x => ∃ (k : Nat) (M' : Mm) (U : List Und), k ≤ l.length ∧ p = .int .i64 k ∧ Atl w x f fb s (.slice va s.atts.length vc) 0 M' ∧ WorkAt x w.heap.size wk f s.root (fun x => x < w3.heap.size) U ∧ U.length = k ∧ w3.heap.size ≤ x.heap.size ∧
            Mm.attU s.root 5 M [] L = Mm.attU s.root 5 M' U (L.drop k)) (fun p _ => l.length - (intOf p).toNat)
          case atStart => exact ⟨0, M, [], by omega, rfl, hS3, hW2, rfl, Nat.le_refl _, rfl⟩
          case round =>
            obtain ⟨k, M', U, hk, rfl, hSx, hWx, hU, hzx, hat⟩ := hrel
            have HSX := Lib.hid (And.intro hSx (And.intro hWx (And.intro hzx hat)))
            by_cases hlt2 : k < l.length
            · obtain ⟨y, hy⟩ : ∃ y, l[k]? = some y := ⟨_, List.getElem?_eq_getElem hlt2⟩
              obtain ⟨g, rfl, hg⟩ : ∃ g, a = some ⟨g, 0, none⟩ ∧ ∀ i x, l[i]? = some x → wr.cell? ⟨g, i, none⟩ = some (.int .i64 x) := by
                rcases hSx.ints H.out.1 H.out.2.2 with e | ⟨g, e, _, _, hg⟩
                · rw [e] at hy; cases hy
                · exact ⟨g, e, hg⟩
              have q0 := hg k y hy
              have hadd : IntKind.i64.wrap (page + k) = page + k := IntWalk.i64_in _ (by omega)
              have hld : L.drop k = (page + k, y) :: L.drop (k + 1) := by rw [HMM.out.2]; exact pairsFrom_drop l page k y hy
              rw [hld, Mm.attU] at hat
              have hsh := shared_any hSx.mem hWx (fun x hx => by omega) (by omega) (page + k) y 5 (by constructor <;> omega)
              obtain ⟨⟨M2, er⟩, hF⟩ : ∃ x, x = M'.shared s.root (page + k) y 5 := ⟨_, rfl⟩
              rw [← hF] at hsh hat
              simp only at hsh hat
              have C := Lib.hid hsh
              have HQ := Lib.hid (And.intro hat hF)
              clear hg hy hld hat hsh hF hSx hWx hzx hS3 hW2
              go_wp2_with fail
              refine C.out.mono ?_
              rintro e w4 ⟨rfl, hM4, hW4, hs4⟩
              obtain ⟨hSx, hWx, hzx, -⟩ := HSX.out
              have hS4 := hSx.call hM4 hs4 hwk2
              have r8 := hS4.e
              have r9 := hS4.ez
              have hz4 := hs4.size
              have HS4 := Lib.hid (And.intro hS4 (And.intro hW4 (And.intro hzx hz4)))
              by_cases he : er = 0
              · subst he
                clear C hM4 hW4 hs4 hSx hWx hzx hS4 hz4
                go_wp2
                go_roundw
                case rel =>
                  obtain ⟨hS4, hW4, hzx, hz4⟩ := HS4.out
                  have hat := HQ.out.1
                  simp only [if_true] at hat
                  refine ⟨k + 1, M2, U ++ [.page (page + k)], by omega, by go_num, hS4.err 0, ?_, by rw [List.length_append, List.length_singleton, hU], ?_, hat⟩
                  · refine WorkAt.same (by simpa [pushed] using hW4) ((Same.refl (· = w.heap.size + 1 + 1 + 1) w4).setCell _ (.inr rfl)) fun b hb => ?_
                    subst hb
                    exact free_shape hS4.es (by simp)
                  · simp; omega
                case measure => simp [intOf]; omega
              · have hb2 : (er == 0) = false := by simpa using he
                have hb3 : (er != 0) = true := by simpa using he
                have h11 : er = 11 := by have := Mm.shared_err M' s.root (page + k) y 5; rw [← HQ.out.2] at this; simp only at this; omega
                subst h11
                obtain ⟨W5, hW5⟩ : ∃ W5, W5 = w4.setCell ⟨w.heap.size + 1 + 1 + 1, 0, none⟩ (.int .i64 11) := ⟨_, rfl⟩
                have hS5 := hS4.err 11
                rw [← hW5] at hS5
                have f0 := hS5.r.c0
                have f1 := hS5.r.c1
                have f2 := hS5.r.c2
                have f3 := hS5.r.c3
                have f4 := hS5.r.c4
                have ff0 := hS5.r.fz 0
                have ff1 := hS5.r.fz 1
                have ff2 := hS5.r.fz 2
                have ff3 := hS5.r.fz 3
                have ff4 := hS5.r.fz 4
                have fe := hS5.e
                have fez := hS5.ez
                have HW5 := Lib.hid (And.intro hW5 hS5)
                clear C hM4 hW4 hs4 hSx hWx hzx hS4 hz4 hS5 he
                go_wp2
                rw [← HW5.out.1]
                clear hW5
                go_region
                go_wp2
                obtain ⟨W6, hW6⟩ : ∃ W6, W6 = ((((((W5.setCell ⟨w.heap.size + 1 + 1, 0, none⟩ (.int .i64 0)).setCell ⟨w.heap.size + 1 + 1, 1, none⟩ (.int .i64 0)).setCell ⟨w.heap.size + 1 + 1, 2, none⟩ (.int .i64 0)).setCell ⟨w.heap.size + 1 + 1, 3, none⟩ (.int .i64 0)).setCell ⟨w.heap.size + 1 + 1, 4, none⟩ (.slice none 0 0)).setCell ⟨w.heap.size + 1 + 1 + 1, 0, none⟩ (.int .i64 11)).drew := ⟨_, rfl⟩
                rw [← hW6]
                obtain ⟨hr6, fe6, hM6, hb6, hs6⟩ := HW5.out.2.leave_d _ _ _ _ _ 11 hW6
                clear hW6 f0 f1 f2 f3 f4 fe ff0 ff1 ff2 ff3 ff4 fez
                obtain ⟨hS4, hW4, hzx, hz4⟩ := HS4.out
                have hW5 := HW5.out.1
                have hsE : Same (· = w.heap.size + 1 + 1 + 1) w4 W5 := by rw [hW5]; exact (Same.refl _ _).setCell _ (.inr rfl)
                have s46 : Same (fun b => b = w.heap.size + 1 + 1 + 1 ∨ b = w.heap.size + 1 + 1) w4 W6 := (hsE.mono (fun _ _ h => .inl h)).trans hs6
                have hfree : ∀ b, b = w.heap.size + 1 + 1 + 1 ∨ b = w.heap.size + 1 + 1 → Free w4 (fun x => x < w3.heap.size) b := fun b hb => by
                  rcases hb with rfl | rfl
                  · exact free_shape hS4.es (by simp)
                  · exact free_shape hS4.rs (by simp)
                have hW6' := (WorkAt.same (by simpa [pushed] using hW4) s46 hfree : WorkAt W6 w.heap.size wk f s.root (fun x => x < w3.heap.size) U)
                refine Go.leaves_cons (f := 83) (args := #[.pointer (some ⟨wk, 0, none⟩), .pointer (some ⟨w.heap.size + 1 + 1 + 1, 0, none⟩)]) (by simp) (by simp [go_sem]) ?_
                refine (callsDIn_wide (ends_err hM6 hW6' (by omega) fe6 (by omega))).mono ?_
                rintro e u' w7 ⟨rfl, ⟨v, rfl⟩, hM7, hs7⟩
                have hR7 : R = (M2.undo s.root U.reverse, 11) := by
                  have hat := HQ.out.1
                  simp only [Int.reduceEq, if_false] at hat
                  rw [HMM.out.1, hat]
                have hfl := HS.out.fbl
                have k := hr6.same hs7 (by omega)
                rw [hR7]
                exact ⟨_, results_cells2 rfl (by rfl) (by rfl) (loadVar75 _ _ _ _ _ _ _ k.c0 k.c1 k.c2 k.c3 k.c4) (loadVar25 _ _ _ (hs7.cell fe6 (by simp; omega))), hM7,
                  base_fb (hb6.trans' (hs7.mono (T := fun b => b = fb ∨ w.heap.size ≤ b) (fun b _ h => .inl h)) (fun b h _ => h)), .inr ⟨by simp, rfl⟩⟩
            · have hkl : k = l.length := by omega
              subst hkl
              have hnil : L.drop l.length = [] := by rw [HMM.out.2]; exact List.drop_eq_nil_of_le (by rw [pairsFrom_len]; omega)
              rw [hnil, Mm.attU] at hat
              have hRR : R = (M', 0) := HMM.out.1.trans hat
              have HRR := Lib.hid hRR
              clear hnil hat hRR hlt2
              have how := own_any wr s.root s.text s.data s.heap (.slice va s.atts.length vc) s.atts (hSx.atts H.out.1 H.out.2.1) (by omega)
              have HOW := Lib.hid how
              have hwx : w.heap.size + 1 + 1 + 1 < wr.heap.size := hSx.size
              have k0 := hSx.s.c0
              have k1 := hSx.s.c1
              have k2 := hSx.s.c2
              have k3 := hSx.s.c3
              have k4 := hSx.s.c4
              clear how hSx hWx hzx hS3 hW2
              go_wp2_with fail
              refine HOW.out.mono ?_
              rintro e w5 ⟨v1, rfl, hown, hs5⟩
              obtain ⟨g1, n1, c1, rfl⟩ : ∃ a n c, v1 = .slice a n c := by
                obtain ⟨_, ⟨rfl, _⟩ | ⟨g, cap, cur, rfl, _⟩⟩ := hown
                · exact ⟨_, _, _, rfl⟩
                · exact ⟨_, _, _, rfl⟩
              have hn1 : n1 = s.atts.length := by
                obtain ⟨_, ⟨e, e2⟩ | ⟨g, cap, cur, e, _⟩⟩ := hown
                · cases e; exact e2.symm
                · cases e; rfl
              subst hn1
              have hS5 := HSX.out.1.quiet hs5
              have k0 := hS5.s.c0
              have k1 := hS5.s.c1
              have k2 := hS5.s.c2
              have k3 := hS5.s.c3
              have k4 := hS5.s.c4
              have z0 := hS5.s.fz 0
              have z1 := hS5.s.fz 1
              have z2 := hS5.s.fz 2
              have z3 := hS5.s.fz 3
              have z4 := hS5.s.fz 4
              obtain ⟨W6, hW6⟩ : ∃ W, W = ((((w5.setCell ⟨w.heap.size + 1, 0, none⟩ (.int .i64 s.root)).setCell ⟨w.heap.size + 1, 1, none⟩ (.int .i64 s.text)).setCell ⟨w.heap.size + 1, 2, none⟩ (.int .i64 s.data)).setCell ⟨w.heap.size + 1, 3, none⟩ (.int .i64 s.heap)).setCell ⟨w.heap.size + 1, 4, none⟩ (.slice g1 s.atts.length c1) := ⟨_, rfl⟩
              obtain ⟨F6, hs56⟩ := five_set hW6 hS5.s
              have hown6 : W6.ownsRow wr.heap.size 164 3 (.slice g1 s.atts.length c1) s.atts.length (flatA s.atts) := ownsRow_same hown hs56 (fun g hg e => by
                have := (ownsRow_shape hown hg).1
                omega)
              obtain ⟨N1, hN1⟩ : ∃ W, W = W6.alloc (.cells #[.int .i64 page, .int .i64 (l.length : Int), .bool false] 164) := ⟨_, rfl⟩
              have hsN : Same (fun _ => False) W6 N1 := by rw [hN1]; exact same_alloc _
              have hownN := ownsRow_same hown6 hsN (fun _ _ e => e)
              have hnew : ∀ (j : Nat) (u : Value), [Value.int .i64 page, .int .i64 (l.length : Int), .bool false][j]? = some u → N1.cell? ((⟨W6.heap.size, 0, none⟩ : Addr).add j) = some u := fun j u hu => by rw [hN1]; exact cells_new rfl hu
              obtain ⟨i0, hi0, hz0, hz1', hz2⟩ := info_parts info164
              have hz5 := hs5.size
              have hz56 := hs56.size
              have hzN := hsN.size
              obtain ⟨v2, W7, hrun, hown7, hs7, hfr⟩ := run_append_same (P := Try.prog) N1 wr.heap.size 73 73 164 i0 (.agg #[.int .i64 0, .int .i64 0, .bool false]) 3 24 Try.under73 hi0 hz0 hz1' hz2 rfl (by decide) (.slice g1 s.atts.length c1) s.atts.length (flatA s.atts) hownN ⟨W6.heap.size, 0, none⟩ 1 1 _ rfl hnew (by simp [Value.oneCell']) (by unfold maxLen; omega) (by omega) (by omega)
              have hfl7 : flatA s.atts ++ [Value.int .i64 page, .int .i64 (l.length : Int), .bool false] = flatA (s.atts ++ [⟨page, l.length, false⟩]) := by rw [flatA_append]; rfl
              rw [hfl7] at hown7
              obtain ⟨g2, c2, rfl⟩ := own_row_succ hown7
              have hbox : ∀ b, b = w.heap.size ∨ b = w.heap.size + 1 ∨ b = w.heap.size + 1 + 1 ∨ b = w.heap.size + 1 + 1 + 1 ∨ b = fb ∨ b = f → ¬ (Value.slice g1 s.atts.length c1).ownBlock = some b := fun b hb e => by
                have := (ownsRow_shape hown e).1
                have := HS.out.fbl
                omega
              have F7 := (F6.same hsN (by simp)).same hs7 (hbox _ (by simp))
              have hs57 : Same (fun b => b = w.heap.size + 1 ∨ (Value.slice g1 s.atts.length c1).ownBlock = some b) w5 W7 := ((hs56.mono (fun _ _ h => .inl h)).trans (hsN.mono (fun _ _ h => h.elim))).trans (hs7.mono (fun _ _ h => .inr h))
              obtain ⟨W8, hW8⟩ : ∃ W, W = W7.setCell ⟨w.heap.size + 1, 4, none⟩ (.slice (some ⟨g2, 0, none⟩) (s.atts.length + 1) c2) := ⟨_, rfl⟩
              have hs78 : Same (· = w.heap.size + 1) W7 W8 := by rw [hW8]; exact (Same.refl _ _).setCell _ (.inr rfl)
              have hz7 := hs7.size
              have hg2 : wr.heap.size ≤ g2 := (ownsRow_shape hown7 rfl).1
              have hown8 := ownsRow_same hown7 hs78 (fun g hg e => by
                have : g = g2 := by simp [Value.ownBlock] at hg; exact hg.symm
                omega)
              have hlen8 : s.atts.length + 1 = (s.atts ++ [(⟨page, l.length, false⟩ : Att)]).length := by simp
              have hown8' : W8.ownsRow wr.heap.size 164 3 (.slice (some ⟨g2, 0, none⟩) (s.atts.length + 1) c2) (s.atts ++ [(⟨page, l.length, false⟩ : Att)]).length (flatA (s.atts ++ [⟨page, l.length, false⟩])) := by rw [← hlen8]; exact hown8
              have CS := Lib.hid (sort_atts hown8' (by simp; omega) (by simp))
              have e65 : W6.heap.size = w5.heap.size := by rw [hW6]; simp
              rw [e65] at hrun
              clear e65
              have HRUN := Lib.hid hrun
              have HW6 := Lib.hid (And.intro hW6 (And.intro hN1 hW8))
              have HX := Lib.hid (And.intro hs5 (And.intro hs57 (And.intro hs78 (And.intro F7 (And.intro hbox (And.intro hg2 (And.intro hown hown8)))))))
              have c7 := F7.c4
              have y7 := F7.fz 4
              have F8 : W8.cell? ⟨w.heap.size + 1, 4, none⟩ = some (.slice (some ⟨g2, 0, none⟩) (s.atts.length + 1) c2) := by rw [hW8]; exact World.cell?_setCell_same _ _ _ F7.c4
              have hs78ne : ∀ (o : Nat) {v : Value}, W7.cell? ⟨w.heap.size + 1, o, none⟩ = some v → o < 4 → W8.cell? ⟨w.heap.size + 1, o, none⟩ = some v := fun o v h ho => by rw [hW8]; exact cell_ne h (by simp; omega)
              have HF8 := Lib.hid (And.intro F8 @hs78ne)
              clear F8 hs78ne
              have c6 := (F6.same hsN (by simp)).c4
              have c6' := F6.c4
              clear HOW hown hs5 hS5 F6 hs56 hown6 hsN hownN hnew hz5 hz56 hzN hrun hown7 hs7 hfr hfl7 hbox F7 hs57 hW6 hN1 hW8 hs78 hz7 hg2 hown8 hown8' hlen8 hi0 hz0 hz1' hz2
              go_wp2_with (at_builtin; refine stop_intro ?_)
              unfold Stop
              rw [← HW6.out.1, ← HW6.out.2.1]
              refine wpList_append_run rfl _ _ 73 rfl _ _ (by rfl) (by rfl) HRUN.out ?_
              go_wp2_with fail
              rw [← HW6.out.2.2]
              refine CS.out.mono ?_
              rintro e w9 ⟨rfl, l', hperm, hsort, hown9, hs89⟩
              obtain ⟨hs5, hs57, hs78, F7, hbox, hg2, hown, hown8⟩ := HX.out
              obtain ⟨F8, hs78ne⟩ := HF8.out
              have hS5 := HSX.out.1.quiet hs5
              have hfl := HS.out.fbl
              have hz57 := hs57.size
              have hz58 := hs78.size
              have hz5 := hs5.size
              have hwx5 := hS5.size
              have hs89' : Same (· = g2) W8 w9 := hs89.mono (fun b _ e => by simp [Value.ownBlock] at e; exact e.symm)
              have hs59 : Same (fun b => b = w.heap.size + 1 ∨ (Value.slice g1 s.atts.length c1).ownBlock = some b ∨ b = g2) w5 w9 := ((hs57.mono (fun _ _ h => h.elim .inl (fun e => .inr (.inl e)))).trans (hs78.mono (fun _ _ h => .inl h))).trans (hs89'.mono (fun _ _ h => .inr (.inr h)))
              have hno : ∀ b, b = w.heap.size ∨ b = w.heap.size + 1 + 1 ∨ b = w.heap.size + 1 + 1 + 1 ∨ b = fb ∨ b = f → ¬ (b = w.heap.size + 1 ∨ (Value.slice g1 s.atts.length c1).ownBlock = some b ∨ b = g2) := fun b hb h => by
                rcases h with h | h | h
                · omega
                · exact hbox b (by rcases hb with e | e | e | e | e <;> simp [e]) h
                · omega
              have R9 := hS5.r.same hs59 (hno _ (by simp))
              have e9 := hs59.cell hS5.e (hno _ (by simp))
              have ez9 := hs59.unfrozen hS5.e hS5.ez (hno _ (by simp))
              have hM9 := hS5.mem.same hs59 (hno _ (by simp)) (hno _ (by simp))
              have b0 := hs89'.cell (hs78ne 0 F7.c0 (by omega)) (by simp; omega)
              have b1 := hs89'.cell (hs78ne 1 F7.c1 (by omega)) (by simp; omega)
              have b2' := hs89'.cell (hs78ne 2 F7.c2 (by omega)) (by simp; omega)
              have b3' := hs89'.cell (hs78ne 3 F7.c3 (by omega)) (by simp; omega)
              have b4' := hs89'.cell F8 (by simp; omega)
              have r0 := R9.c0
              have r1 := R9.c1
              have r2 := R9.c2
              have r3 := R9.c3
              have r4 := R9.c4
              have y0 := R9.fz 0
              have y1 := R9.fz 1
              have y2 := R9.fz 2
              have y3 := R9.fz 3
              have y4 := R9.fz 4
              have hbase9 : Same (fun b => b = fb ∨ w.heap.size ≤ b) w w9 := hS5.base.trans' (hs59.mono (T := fun b => b = fb ∨ w.heap.size ≤ b) (fun b _ h => by
                rcases h with h | h | h
                · omega
                · have := (ownsRow_shape hown h).1; omega
                · omega)) (fun b h _ => h)
              have HF := Lib.hid (And.intro hperm (And.intro hsort (And.intro hown9 (And.intro hM9 (And.intro hbase9 (And.intro hg2 hfl))))))
              clear CS hperm hsort hown9 hs89 hs5 hs57 hs78 F7 hbox hg2 hown hown8 hS5 hfl hz57 hz58 hz5 hwx5 hs89' hs59 hno R9 hM9 hbase9 F8 hs78ne c7 y7 c6 c6' k0 k1 k2 k3 k4 z0 z1 z2 z3 z4
              go_wp2
              obtain ⟨W10, hW10⟩ : ∃ W, W = (((((w9.setCell ⟨w.heap.size + 1 + 1, 0, none⟩ (.int .i64 s.root)).setCell ⟨w.heap.size + 1 + 1, 1, none⟩ (.int .i64 s.text)).setCell ⟨w.heap.size + 1 + 1, 2, none⟩ (.int .i64 s.data)).setCell ⟨w.heap.size + 1 + 1, 3, none⟩ (.int .i64 s.heap)).setCell ⟨w.heap.size + 1 + 1, 4, none⟩ (.slice (some ⟨g2, 0, none⟩) (s.atts.length + 1) c2)).setCell ⟨w.heap.size + 1 + 1 + 1, 0, none⟩ (.int .i64 0) := ⟨_, rfl⟩
              rw [← hW10]
              obtain ⟨⟨x0, x1, x2, x3, x4⟩, fe, hs910⟩ := put5f hW10 r0 r1 r2 r3 r4 e9 (by omega)
              clear hW10 r0 r1 r2 r3 r4 y0 y1 y2 y3 y4 e9 ez9 b0 b1 b2' b3' b4'
              refine Go.leaves_cons (f := 83) (args := #[.pointer (some ⟨wk, 0, none⟩), .pointer (some ⟨w.heap.size + 1 + 1 + 1, 0, none⟩)]) (by simp) (by simp [go_sem]) ?_
              refine (callsDIn_wide (ends_ok W10 _ _ .returning fe)).mono ?_
              rintro e u' w10 ⟨rfl, ⟨v, rfl⟩, rfl⟩
              obtain ⟨hperm, hsort, hown9, hM9, hbase9, hg2, hfl⟩ := HF.out
              rw [HRR.out]
              refine ⟨_, results_cells2 rfl (by rfl) (by rfl) (loadVar75 _ _ _ _ _ _ _ x0 x1 x2 x3 x4) (loadVar25 _ _ _ fe), hM9.same hs910 (by omega) (by omega), base_fb (hbase9.trans' (hs910.mono (T := fun b => b = fb ∨ w.heap.size ≤ b) (fun b _ h => by omega)) (fun b h _ => h)), .inl ⟨rfl, .slice (some ⟨g2, 0, none⟩) (s.atts.length + 1) c2, l', rfl, ?_, hperm, by first | exact hsort | exact hsort.imp (fun h => Int.not_lt.2 h)⟩⟩
              refine ownsRow_base (ownsRow_same hown9 hs910 (fun g hg e => ?_)) (Nat.zero_le _)
              have : g = g2 := by simp [Value.ownBlock] at hg; exact hg.symm
              omega
        · have hfl2 := HFL.out
          simp only [Bool.false_eq_true, if_false, if_true] at hfl2
          subst hfl2
          go_wp2_with fail
          refine C1.out.mono ?_
          rintro e w3 ⟨wk, hwk, rfl, hW1, hs3⟩
          have hS3 := HS2.out.1.quiet hs3
          have hz3 := hS3.size
          have hzz := hs3.size
          have hwk2 : w.heap.size + 1 + 1 + 1 < wk := by have := HS2.out.1.size; omega
          have hW2 : WorkAt w3 w.heap.size wk f s.root (fun x => x < w3.heap.size) [] := hW1.base (by have := HS2.out.1.size; omega)
          have HB := Lib.hid hS3
          clear C1 hW1 hs3 j1 j2 j3 j4 j5 j6 hzz hz3
          go_wp2
          go_loopw [77] (fun p x => ∃ (k : Nat) (M' : Mm) (U : List Und), k ≤ l.length ∧ p = .int .i64 k ∧ Atl w x f fb s (.slice va s.atts.length vc) 0 M' ∧ WorkAt x w.heap.size wk f s.root (fun x => x < w3.heap.size) U ∧ U.length = k ∧ w3.heap.size ≤ x.heap.size ∧
            Mm.attU s.root 7 M [] L = Mm.attU s.root 7 M' U (L.drop k)) (fun p _ => l.length - (intOf p).toNat)
          case atStart => exact ⟨0, M, [], by omega, rfl, hS3, hW2, rfl, Nat.le_refl _, rfl⟩
          case round =>
            obtain ⟨k, M', U, hk, rfl, hSx, hWx, hU, hzx, hat⟩ := hrel
            have HSX := Lib.hid (And.intro hSx (And.intro hWx (And.intro hzx hat)))
            by_cases hlt2 : k < l.length
            · obtain ⟨y, hy⟩ : ∃ y, l[k]? = some y := ⟨_, List.getElem?_eq_getElem hlt2⟩
              obtain ⟨g, rfl, hg⟩ : ∃ g, a = some ⟨g, 0, none⟩ ∧ ∀ i x, l[i]? = some x → wr.cell? ⟨g, i, none⟩ = some (.int .i64 x) := by
                rcases hSx.ints H.out.1 H.out.2.2 with e | ⟨g, e, _, _, hg⟩
                · rw [e] at hy; cases hy
                · exact ⟨g, e, hg⟩
              have q0 := hg k y hy
              have hadd : IntKind.i64.wrap (page + k) = page + k := IntWalk.i64_in _ (by omega)
              have hld : L.drop k = (page + k, y) :: L.drop (k + 1) := by rw [HMM.out.2]; exact pairsFrom_drop l page k y hy
              rw [hld, Mm.attU] at hat
              have hsh := shared_any hSx.mem hWx (fun x hx => by omega) (by omega) (page + k) y 7 (by constructor <;> omega)
              obtain ⟨⟨M2, er⟩, hF⟩ : ∃ x, x = M'.shared s.root (page + k) y 7 := ⟨_, rfl⟩
              rw [← hF] at hsh hat
              simp only at hsh hat
              have C := Lib.hid hsh
              have HQ := Lib.hid (And.intro hat hF)
              clear hg hy hld hat hsh hF hSx hWx hzx hS3 hW2
              go_wp2_with fail
              refine C.out.mono ?_
              rintro e w4 ⟨rfl, hM4, hW4, hs4⟩
              obtain ⟨hSx, hWx, hzx, -⟩ := HSX.out
              have hS4 := hSx.call hM4 hs4 hwk2
              have r8 := hS4.e
              have r9 := hS4.ez
              have hz4 := hs4.size
              have HS4 := Lib.hid (And.intro hS4 (And.intro hW4 (And.intro hzx hz4)))
              by_cases he : er = 0
              · subst he
                clear C hM4 hW4 hs4 hSx hWx hzx hS4 hz4
                go_wp2
                go_roundw
                case rel =>
                  obtain ⟨hS4, hW4, hzx, hz4⟩ := HS4.out
                  have hat := HQ.out.1
                  simp only [if_true] at hat
                  refine ⟨k + 1, M2, U ++ [.page (page + k)], by omega, by go_num, hS4.err 0, ?_, by rw [List.length_append, List.length_singleton, hU], ?_, hat⟩
                  · refine WorkAt.same (by simpa [pushed] using hW4) ((Same.refl (· = w.heap.size + 1 + 1 + 1) w4).setCell _ (.inr rfl)) fun b hb => ?_
                    subst hb
                    exact free_shape hS4.es (by simp)
                  · simp; omega
                case measure => simp [intOf]; omega
              · have hb2 : (er == 0) = false := by simpa using he
                have hb3 : (er != 0) = true := by simpa using he
                have h11 : er = 11 := by have := Mm.shared_err M' s.root (page + k) y 7; rw [← HQ.out.2] at this; simp only at this; omega
                subst h11
                obtain ⟨W5, hW5⟩ : ∃ W5, W5 = w4.setCell ⟨w.heap.size + 1 + 1 + 1, 0, none⟩ (.int .i64 11) := ⟨_, rfl⟩
                have hS5 := hS4.err 11
                rw [← hW5] at hS5
                have f0 := hS5.r.c0
                have f1 := hS5.r.c1
                have f2 := hS5.r.c2
                have f3 := hS5.r.c3
                have f4 := hS5.r.c4
                have ff0 := hS5.r.fz 0
                have ff1 := hS5.r.fz 1
                have ff2 := hS5.r.fz 2
                have ff3 := hS5.r.fz 3
                have ff4 := hS5.r.fz 4
                have fe := hS5.e
                have fez := hS5.ez
                have HW5 := Lib.hid (And.intro hW5 hS5)
                clear C hM4 hW4 hs4 hSx hWx hzx hS4 hz4 hS5 he
                go_wp2
                rw [← HW5.out.1]
                clear hW5
                go_region
                go_wp2
                obtain ⟨W6, hW6⟩ : ∃ W6, W6 = ((((((W5.setCell ⟨w.heap.size + 1 + 1, 0, none⟩ (.int .i64 0)).setCell ⟨w.heap.size + 1 + 1, 1, none⟩ (.int .i64 0)).setCell ⟨w.heap.size + 1 + 1, 2, none⟩ (.int .i64 0)).setCell ⟨w.heap.size + 1 + 1, 3, none⟩ (.int .i64 0)).setCell ⟨w.heap.size + 1 + 1, 4, none⟩ (.slice none 0 0)).setCell ⟨w.heap.size + 1 + 1 + 1, 0, none⟩ (.int .i64 11)).drew := ⟨_, rfl⟩
                rw [← hW6]
                obtain ⟨hr6, fe6, hM6, hb6, hs6⟩ := HW5.out.2.leave_d _ _ _ _ _ 11 hW6
                clear hW6 f0 f1 f2 f3 f4 fe ff0 ff1 ff2 ff3 ff4 fez
                obtain ⟨hS4, hW4, hzx, hz4⟩ := HS4.out
                have hW5 := HW5.out.1
                have hsE : Same (· = w.heap.size + 1 + 1 + 1) w4 W5 := by rw [hW5]; exact (Same.refl _ _).setCell _ (.inr rfl)
                have s46 : Same (fun b => b = w.heap.size + 1 + 1 + 1 ∨ b = w.heap.size + 1 + 1) w4 W6 := (hsE.mono (fun _ _ h => .inl h)).trans hs6
                have hfree : ∀ b, b = w.heap.size + 1 + 1 + 1 ∨ b = w.heap.size + 1 + 1 → Free w4 (fun x => x < w3.heap.size) b := fun b hb => by
                  rcases hb with rfl | rfl
                  · exact free_shape hS4.es (by simp)
                  · exact free_shape hS4.rs (by simp)
                have hW6' := (WorkAt.same (by simpa [pushed] using hW4) s46 hfree : WorkAt W6 w.heap.size wk f s.root (fun x => x < w3.heap.size) U)
                refine Go.leaves_cons (f := 83) (args := #[.pointer (some ⟨wk, 0, none⟩), .pointer (some ⟨w.heap.size + 1 + 1 + 1, 0, none⟩)]) (by simp) (by simp [go_sem]) ?_
                refine (callsDIn_wide (ends_err hM6 hW6' (by omega) fe6 (by omega))).mono ?_
                rintro e u' w7 ⟨rfl, ⟨v, rfl⟩, hM7, hs7⟩
                have hR7 : R = (M2.undo s.root U.reverse, 11) := by
                  have hat := HQ.out.1
                  simp only [Int.reduceEq, if_false] at hat
                  rw [HMM.out.1, hat]
                have hfl := HS.out.fbl
                have k := hr6.same hs7 (by omega)
                rw [hR7]
                exact ⟨_, results_cells2 rfl (by rfl) (by rfl) (loadVar75 _ _ _ _ _ _ _ k.c0 k.c1 k.c2 k.c3 k.c4) (loadVar25 _ _ _ (hs7.cell fe6 (by simp; omega))), hM7,
                  base_fb (hb6.trans' (hs7.mono (T := fun b => b = fb ∨ w.heap.size ≤ b) (fun b _ h => .inl h)) (fun b h _ => h)), .inr ⟨by simp, rfl⟩⟩
            · have hkl : k = l.length := by omega
              subst hkl
              have hnil : L.drop l.length = [] := by rw [HMM.out.2]; exact List.drop_eq_nil_of_le (by rw [pairsFrom_len]; omega)
              rw [hnil, Mm.attU] at hat
              have hRR : R = (M', 0) := HMM.out.1.trans hat
              have HRR := Lib.hid hRR
              clear hnil hat hRR hlt2
              have how := own_any wr s.root s.text s.data s.heap (.slice va s.atts.length vc) s.atts (hSx.atts H.out.1 H.out.2.1) (by omega)
              have HOW := Lib.hid how
              have hwx : w.heap.size + 1 + 1 + 1 < wr.heap.size := hSx.size
              have k0 := hSx.s.c0
              have k1 := hSx.s.c1
              have k2 := hSx.s.c2
              have k3 := hSx.s.c3
              have k4 := hSx.s.c4
              clear how hSx hWx hzx hS3 hW2
              go_wp2_with fail
              refine HOW.out.mono ?_
              rintro e w5 ⟨v1, rfl, hown, hs5⟩
              obtain ⟨g1, n1, c1, rfl⟩ : ∃ a n c, v1 = .slice a n c := by
                obtain ⟨_, ⟨rfl, _⟩ | ⟨g, cap, cur, rfl, _⟩⟩ := hown
                · exact ⟨_, _, _, rfl⟩
                · exact ⟨_, _, _, rfl⟩
              have hn1 : n1 = s.atts.length := by
                obtain ⟨_, ⟨e, e2⟩ | ⟨g, cap, cur, e, _⟩⟩ := hown
                · cases e; exact e2.symm
                · cases e; rfl
              subst hn1
              have hS5 := HSX.out.1.quiet hs5
              have k0 := hS5.s.c0
              have k1 := hS5.s.c1
              have k2 := hS5.s.c2
              have k3 := hS5.s.c3
              have k4 := hS5.s.c4
              have z0 := hS5.s.fz 0
              have z1 := hS5.s.fz 1
              have z2 := hS5.s.fz 2
              have z3 := hS5.s.fz 3
              have z4 := hS5.s.fz 4
              obtain ⟨W6, hW6⟩ : ∃ W, W = ((((w5.setCell ⟨w.heap.size + 1, 0, none⟩ (.int .i64 s.root)).setCell ⟨w.heap.size + 1, 1, none⟩ (.int .i64 s.text)).setCell ⟨w.heap.size + 1, 2, none⟩ (.int .i64 s.data)).setCell ⟨w.heap.size + 1, 3, none⟩ (.int .i64 s.heap)).setCell ⟨w.heap.size + 1, 4, none⟩ (.slice g1 s.atts.length c1) := ⟨_, rfl⟩
              obtain ⟨F6, hs56⟩ := five_set hW6 hS5.s
              have hown6 : W6.ownsRow wr.heap.size 164 3 (.slice g1 s.atts.length c1) s.atts.length (flatA s.atts) := ownsRow_same hown hs56 (fun g hg e => by
                have := (ownsRow_shape hown hg).1
                omega)
              obtain ⟨N1, hN1⟩ : ∃ W, W = W6.alloc (.cells #[.int .i64 page, .int .i64 (l.length : Int), .bool true] 164) := ⟨_, rfl⟩
              have hsN : Same (fun _ => False) W6 N1 := by rw [hN1]; exact same_alloc _
              have hownN := ownsRow_same hown6 hsN (fun _ _ e => e)
              have hnew : ∀ (j : Nat) (u : Value), [Value.int .i64 page, .int .i64 (l.length : Int), .bool true][j]? = some u → N1.cell? ((⟨W6.heap.size, 0, none⟩ : Addr).add j) = some u := fun j u hu => by rw [hN1]; exact cells_new rfl hu
              obtain ⟨i0, hi0, hz0, hz1', hz2⟩ := info_parts info164
              have hz5 := hs5.size
              have hz56 := hs56.size
              have hzN := hsN.size
              obtain ⟨v2, W7, hrun, hown7, hs7, hfr⟩ := run_append_same (P := Try.prog) N1 wr.heap.size 73 73 164 i0 (.agg #[.int .i64 0, .int .i64 0, .bool false]) 3 24 Try.under73 hi0 hz0 hz1' hz2 rfl (by decide) (.slice g1 s.atts.length c1) s.atts.length (flatA s.atts) hownN ⟨W6.heap.size, 0, none⟩ 1 1 _ rfl hnew (by simp [Value.oneCell']) (by unfold maxLen; omega) (by omega) (by omega)
              have hfl7 : flatA s.atts ++ [Value.int .i64 page, .int .i64 (l.length : Int), .bool true] = flatA (s.atts ++ [⟨page, l.length, true⟩]) := by rw [flatA_append]; rfl
              rw [hfl7] at hown7
              obtain ⟨g2, c2, rfl⟩ := own_row_succ hown7
              have hbox : ∀ b, b = w.heap.size ∨ b = w.heap.size + 1 ∨ b = w.heap.size + 1 + 1 ∨ b = w.heap.size + 1 + 1 + 1 ∨ b = fb ∨ b = f → ¬ (Value.slice g1 s.atts.length c1).ownBlock = some b := fun b hb e => by
                have := (ownsRow_shape hown e).1
                have := HS.out.fbl
                omega
              have F7 := (F6.same hsN (by simp)).same hs7 (hbox _ (by simp))
              have hs57 : Same (fun b => b = w.heap.size + 1 ∨ (Value.slice g1 s.atts.length c1).ownBlock = some b) w5 W7 := ((hs56.mono (fun _ _ h => .inl h)).trans (hsN.mono (fun _ _ h => h.elim))).trans (hs7.mono (fun _ _ h => .inr h))
              obtain ⟨W8, hW8⟩ : ∃ W, W = W7.setCell ⟨w.heap.size + 1, 4, none⟩ (.slice (some ⟨g2, 0, none⟩) (s.atts.length + 1) c2) := ⟨_, rfl⟩
              have hs78 : Same (· = w.heap.size + 1) W7 W8 := by rw [hW8]; exact (Same.refl _ _).setCell _ (.inr rfl)
              have hz7 := hs7.size
              have hg2 : wr.heap.size ≤ g2 := (ownsRow_shape hown7 rfl).1
              have hown8 := ownsRow_same hown7 hs78 (fun g hg e => by
                have : g = g2 := by simp [Value.ownBlock] at hg; exact hg.symm
                omega)
              have hlen8 : s.atts.length + 1 = (s.atts ++ [(⟨page, l.length, true⟩ : Att)]).length := by simp
              have hown8' : W8.ownsRow wr.heap.size 164 3 (.slice (some ⟨g2, 0, none⟩) (s.atts.length + 1) c2) (s.atts ++ [(⟨page, l.length, true⟩ : Att)]).length (flatA (s.atts ++ [⟨page, l.length, true⟩])) := by rw [← hlen8]; exact hown8
              have CS := Lib.hid (sort_atts hown8' (by simp; omega) (by simp))
              have e65 : W6.heap.size = w5.heap.size := by rw [hW6]; simp
              rw [e65] at hrun
              clear e65
              have HRUN := Lib.hid hrun
              have HW6 := Lib.hid (And.intro hW6 (And.intro hN1 hW8))
              have HX := Lib.hid (And.intro hs5 (And.intro hs57 (And.intro hs78 (And.intro F7 (And.intro hbox (And.intro hg2 (And.intro hown hown8)))))))
              have c7 := F7.c4
              have y7 := F7.fz 4
              have F8 : W8.cell? ⟨w.heap.size + 1, 4, none⟩ = some (.slice (some ⟨g2, 0, none⟩) (s.atts.length + 1) c2) := by rw [hW8]; exact World.cell?_setCell_same _ _ _ F7.c4
              have hs78ne : ∀ (o : Nat) {v : Value}, W7.cell? ⟨w.heap.size + 1, o, none⟩ = some v → o < 4 → W8.cell? ⟨w.heap.size + 1, o, none⟩ = some v := fun o v h ho => by rw [hW8]; exact cell_ne h (by simp; omega)
              have HF8 := Lib.hid (And.intro F8 @hs78ne)
              clear F8 hs78ne
              have c6 := (F6.same hsN (by simp)).c4
              have c6' := F6.c4
              clear HOW hown hs5 hS5 F6 hs56 hown6 hsN hownN hnew hz5 hz56 hzN hrun hown7 hs7 hfr hfl7 hbox F7 hs57 hW6 hN1 hW8 hs78 hz7 hg2 hown8 hown8' hlen8 hi0 hz0 hz1' hz2
              go_wp2_with (at_builtin; refine stop_intro ?_)
              unfold Stop
              rw [← HW6.out.1, ← HW6.out.2.1]
              refine wpList_append_run rfl _ _ 73 rfl _ _ (by rfl) (by rfl) HRUN.out ?_
              go_wp2_with fail
              rw [← HW6.out.2.2]
              refine CS.out.mono ?_
              rintro e w9 ⟨rfl, l', hperm, hsort, hown9, hs89⟩
              obtain ⟨hs5, hs57, hs78, F7, hbox, hg2, hown, hown8⟩ := HX.out
              obtain ⟨F8, hs78ne⟩ := HF8.out
              have hS5 := HSX.out.1.quiet hs5
              have hfl := HS.out.fbl
              have hz57 := hs57.size
              have hz58 := hs78.size
              have hz5 := hs5.size
              have hwx5 := hS5.size
              have hs89' : Same (· = g2) W8 w9 := hs89.mono (fun b _ e => by simp [Value.ownBlock] at e; exact e.symm)
              have hs59 : Same (fun b => b = w.heap.size + 1 ∨ (Value.slice g1 s.atts.length c1).ownBlock = some b ∨ b = g2) w5 w9 := ((hs57.mono (fun _ _ h => h.elim .inl (fun e => .inr (.inl e)))).trans (hs78.mono (fun _ _ h => .inl h))).trans (hs89'.mono (fun _ _ h => .inr (.inr h)))
              have hno : ∀ b, b = w.heap.size ∨ b = w.heap.size + 1 + 1 ∨ b = w.heap.size + 1 + 1 + 1 ∨ b = fb ∨ b = f → ¬ (b = w.heap.size + 1 ∨ (Value.slice g1 s.atts.length c1).ownBlock = some b ∨ b = g2) := fun b hb h => by
                rcases h with h | h | h
                · omega
                · exact hbox b (by rcases hb with e | e | e | e | e <;> simp [e]) h
                · omega
              have R9 := hS5.r.same hs59 (hno _ (by simp))
              have e9 := hs59.cell hS5.e (hno _ (by simp))
              have ez9 := hs59.unfrozen hS5.e hS5.ez (hno _ (by simp))
              have hM9 := hS5.mem.same hs59 (hno _ (by simp)) (hno _ (by simp))
              have b0 := hs89'.cell (hs78ne 0 F7.c0 (by omega)) (by simp; omega)
              have b1 := hs89'.cell (hs78ne 1 F7.c1 (by omega)) (by simp; omega)
              have b2' := hs89'.cell (hs78ne 2 F7.c2 (by omega)) (by simp; omega)
              have b3' := hs89'.cell (hs78ne 3 F7.c3 (by omega)) (by simp; omega)
              have b4' := hs89'.cell F8 (by simp; omega)
              have r0 := R9.c0
              have r1 := R9.c1
              have r2 := R9.c2
              have r3 := R9.c3
              have r4 := R9.c4
              have y0 := R9.fz 0
              have y1 := R9.fz 1
              have y2 := R9.fz 2
              have y3 := R9.fz 3
              have y4 := R9.fz 4
              have hbase9 : Same (fun b => b = fb ∨ w.heap.size ≤ b) w w9 := hS5.base.trans' (hs59.mono (T := fun b => b = fb ∨ w.heap.size ≤ b) (fun b _ h => by
                rcases h with h | h | h
                · omega
                · have := (ownsRow_shape hown h).1; omega
                · omega)) (fun b h _ => h)
              have HF := Lib.hid (And.intro hperm (And.intro hsort (And.intro hown9 (And.intro hM9 (And.intro hbase9 (And.intro hg2 hfl))))))
              clear CS hperm hsort hown9 hs89 hs5 hs57 hs78 F7 hbox hg2 hown hown8 hS5 hfl hz57 hz58 hz5 hwx5 hs89' hs59 hno R9 hM9 hbase9 F8 hs78ne c7 y7 c6 c6' k0 k1 k2 k3 k4 z0 z1 z2 z3 z4
              go_wp2
              obtain ⟨W10, hW10⟩ : ∃ W, W = (((((w9.setCell ⟨w.heap.size + 1 + 1, 0, none⟩ (.int .i64 s.root)).setCell ⟨w.heap.size + 1 + 1, 1, none⟩ (.int .i64 s.text)).setCell ⟨w.heap.size + 1 + 1, 2, none⟩ (.int .i64 s.data)).setCell ⟨w.heap.size + 1 + 1, 3, none⟩ (.int .i64 s.heap)).setCell ⟨w.heap.size + 1 + 1, 4, none⟩ (.slice (some ⟨g2, 0, none⟩) (s.atts.length + 1) c2)).setCell ⟨w.heap.size + 1 + 1 + 1, 0, none⟩ (.int .i64 0) := ⟨_, rfl⟩
              rw [← hW10]
              obtain ⟨⟨x0, x1, x2, x3, x4⟩, fe, hs910⟩ := put5f hW10 r0 r1 r2 r3 r4 e9 (by omega)
              clear hW10 r0 r1 r2 r3 r4 y0 y1 y2 y3 y4 e9 ez9 b0 b1 b2' b3' b4'
              refine Go.leaves_cons (f := 83) (args := #[.pointer (some ⟨wk, 0, none⟩), .pointer (some ⟨w.heap.size + 1 + 1 + 1, 0, none⟩)]) (by simp) (by simp [go_sem]) ?_
              refine (callsDIn_wide (ends_ok W10 _ _ .returning fe)).mono ?_
              rintro e u' w10 ⟨rfl, ⟨v, rfl⟩, rfl⟩
              obtain ⟨hperm, hsort, hown9, hM9, hbase9, hg2, hfl⟩ := HF.out
              rw [HRR.out]
              refine ⟨_, results_cells2 rfl (by rfl) (by rfl) (loadVar75 _ _ _ _ _ _ _ x0 x1 x2 x3 x4) (loadVar25 _ _ _ fe), hM9.same hs910 (by omega) (by omega), base_fb (hbase9.trans' (hs910.mono (T := fun b => b = fb ∨ w.heap.size ≤ b) (fun b _ h => by omega)) (fun b h _ => h)), .inl ⟨rfl, .slice (some ⟨g2, 0, none⟩) (s.atts.length + 1) c2, l', rfl, ?_, hperm, by first | exact hsort | exact hsort.imp (fun h => Int.not_lt.2 h)⟩⟩
              refine ownsRow_base (ownsRow_same hown9 hs910 (fun g hg e => ?_)) (Nat.zero_le _)
              have : g = g2 := by simp [Value.ownBlock] at hg; exact hg.symm
              omega
      · have HR := Lib.hid hrf
        have f0 := hS2.r.c0
        have f1 := hS2.r.c1
        have f2 := hS2.r.c2
        have f3 := hS2.r.c3
        have f4 := hS2.r.c4
        have z0 := hS2.r.fz 0
        have z1 := hS2.r.fz 1
        have z2 := hS2.r.fz 2
        have z3 := hS2.r.fz 3
        have z4 := hS2.r.fz 4
        have g0 := hS2.e
        have g1 := hS2.ez
        clear C hS2 hs2 c0 c1 hrf
        go_wp2
        refine KEY.out _ _ 10 0 0 (by decide) ?_ HS2.out.1 _ rfl (by rfl) (by rfl)
        have hm := HM.out
        rw [if_pos HR.out] at hm
        exact hm
end Go.Proofs.Ytlbgnmcjdmdjpaa
