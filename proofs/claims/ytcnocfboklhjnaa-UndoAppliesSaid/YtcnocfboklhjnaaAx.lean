/- undo: Apply. Condition: the lists' lengths. -/
import Derived.Test.YtcnocfboklhjnaaRe
namespace Go.Proofs.Ytcnocfboklhjnaa
open Go.RowKit Go.Shelf
attribute [local go_sem] Oper.semAt_some

/-- A row of ints. -/
def IntR (w : World) (a : Option Addr) (l : List Int) : Prop := ∀ i x, l[i]? = some x → ∃ b o, a = some ⟨b, o, none⟩ ∧ w.cell? ⟨b, o + i, none⟩ = some (.int .i64 x)
theorem IntR.same {w w' : World} {S : Nat → Prop} {a : Option Addr} {l : List Int} (h : IntR w a l) (hs : Same S w w') (hS : ∀ x, a = some x → ¬ S x.block) : IntR w' a l := fun i t hi => by
  obtain ⟨b, o, rfl, hx⟩ := h i t hi
  exact ⟨b, o, rfl, hs.cell hx (show ¬ S b from hS ⟨b, o, none⟩ rfl)⟩
theorem IntR.same0 {w w' : World} {a : Option Addr} {l : List Int} (h : IntR w a l) (hs : Same (fun _ => False) w w') : IntR w' a l := h.same hs (fun _ _ h => h)
def badV (v : Int) : Bool := decide (v < 0) || decide (32767 < v)
theorem badv_any (w : World) (v : Int) : Calls Try.prog 40 #[.int .i64 v] w fun e w' => e = .returned (.bool (badV v)) ∧ w' = w := by
  unfold badV
  by_cases h1 : v < 0
  · have e1 : decide (v < 0) = true := by simpa using h1
    rw [e1]
    go_enter Try.func40, Try.ntmps40
    go_wp2
    go_ret
    exact ⟨by simp, rfl⟩
  · have e1 : decide (v < 0) = false := by simpa using h1
    rw [e1]
    go_enter Try.func40, Try.ntmps40
    go_wp2
    go_ret
    exact ⟨by simp, rfl⟩
set_option maxHeartbeats 800000 in
theorem index50 (w : World) (a : Option Addr) (c : Nat) (l : List Int) (hr : IntR w a l) (hlen : l.length ≤ maxLen) :
    Calls Try.prog 50 #[.slice a l.length c, .func (.func 40) #[] #[]] w fun e w' => ∃ r : Int, (0 ≤ r ↔ ∃ t ∈ l, badV t = true) ∧ e = .returned (.int .i64 r) ∧ w' = w := by
  have HR := Lib.hid hr
  have hn2 : l.length ≤ 9223372036854775807 := by unfold maxLen at hlen; omega
  obtain ⟨n, hn⟩ : ∃ n, n = l.length := ⟨_, rfl⟩
  rw [← hn] at hn2 ⊢
  have HN := Lib.hid hn
  clear hr hn hlen
  go_enter Try.func50, Try.ntmps50
  go_wp2
  go_loopw [8] (fun v8 wx => ∃ (i : Nat) (W : World), W = wx ∧ i ≤ n ∧ v8 = .int .i64 i ∧ (∀ t ∈ l.take i, badV t = false) ∧ Hid (W = w)) (fun v8 _ => n - (intOf v8).toNat)
  case atStart => exact ⟨0, _, rfl, by omega, rfl, by simp, rfl⟩
  case round =>
    obtain ⟨i, W, hW, hi, rfl, hg, HW⟩ := hrel
    subst hW
    have HG := Lib.hid hg
    by_cases hin : i < n
    · have hii : (i : Int) < n := by omega
      obtain ⟨t, ht⟩ : ∃ t, l[i]? = some t := ⟨_, List.getElem?_eq_getElem (by have := HN.out; omega)⟩
      obtain ⟨b, o, rfl, hx⟩ := HR.out i t ht
      rw [← HW.out] at hx
      have HX := Lib.hid ht
      have hb := badv_any W t
      clear ht hg
      cases hbt : badV t with
      | true =>
        rw [hbt] at hb
        have HB := Lib.hid hbt
        clear hbt
        go_wp2_with (go_at_call 40; refine hb.mono ?_; rintro e w5 ⟨rfl, rfl⟩)
        go_ret
        exact ⟨i, ⟨fun _ => ⟨t, List.mem_of_getElem? HX.out, HB.out⟩, fun _ => by omega⟩, rfl, HW.out⟩
      | false =>
        rw [hbt] at hb
        have HB := Lib.hid hbt
        clear hbt
        go_wp2_with (go_at_call 40; refine hb.mono ?_; rintro e w5 ⟨rfl, rfl⟩)
        go_round
        case rel =>
          refine ⟨i + 1, _, rfl, by omega, by go_num, fun u hu => ?_, HW.out⟩
          rw [List.take_add_one, HX.out] at hu
          rcases List.mem_append.1 hu with hu | hu
          · exact HG.out u hu
          · simp at hu; rw [hu]; exact HB.out
        case measure => simp [intOf]; omega
    · obtain rfl : i = n := by omega
      clear hg
      go_wp2
      go_ret
      refine ⟨-1, ⟨fun h => by omega, ?_⟩, rfl, HW.out⟩
      rintro ⟨t, ht, hb⟩
      have := HG.out t (by rw [HN.out, List.take_length]; exact ht)
      rw [this] at hb; cases hb
theorem contains39 (w : World) (a : Option Addr) (c : Nat) (l : List Int) (hr : IntR w a l) (hlen : l.length ≤ maxLen) :
    Calls Try.prog 39 #[.slice a l.length c, .func (.func 40) #[] #[]] w fun e w' => ∃ b : Bool, (b = true ↔ ∃ t ∈ l, badV t = true) ∧ e = .returned (.bool b) ∧ w' = w := by
  have h := index50 w a c l hr hlen
  clear hr
  go_enter Try.func39, Try.ntmps39
  go_wp2_with (go_at_call 50; refine h.mono ?_; rintro e w5 ⟨r, hr, rfl, rfl⟩; have HR := Lib.hid hr; clear hr)
  clear h
  go_ret
  exact ⟨decide (0 ≤ r), by rw [decide_eq_true_eq]; exact HR.out, rfl, rfl⟩
theorem Try.info3 : (Try.prog.info? 3).map (fun i => (i.zero, i.size, i.bytes)) = some (some (.int .i64 0), 1, 8) := by kernel_rfl
theorem info3 : ∃ i, Try.prog.info? 3 = some i ∧ i.zero = some (.int .i64 0) ∧ i.size = 1 ∧ i.bytes = 8 := by
  have := Try.info3
  cases h : Try.prog.info? 3 with
  | none => rw [h] at this; simp at this
  | some i => rw [h] at this; exact ⟨i, rfl, by simpa using this⟩
abbrev ints (l : List Int) : List Value := l.map fun n => .int .i64 n
theorem own_row_any2 {w : World} {base : Nat} {e : TypeId} {size : Nat} {v : Value} {n : Nat} {xs : List Value} (h : w.ownsRow base e size v n xs) : ∃ ao cap, v = .slice ao n cap ∧ (0 < n → ∃ g, ao = some ⟨g, 0, none⟩) := by
  rcases h.2 with ⟨rfl, h0⟩ | ⟨g, cap, cur, rfl, _⟩
  · subst h0; exact ⟨none, 0, rfl, fun h => by omega⟩
  · exact ⟨_, cap, rfl, fun _ => ⟨g, rfl⟩⟩
theorem same_below {b : Nat} {w w' : World} (h : Below b w w') (hb : w.heap.size ≤ b) : Same (fun _ => False) w w' :=
  ⟨h.os, h.tape, h.output, h.size, fun k hk _ => h.block k (by omega), fun k hk => by unfold World.shape?; rw [h.block k (by omega)]⟩
set_option maxRecDepth 65536 in
theorem clone_ints (w : World) (a : Option Addr) (c : Nat) (l : List Int) (hr : IntR w a l) (hlen : l.length ≤ 1000) (ha : a = none ∨ ∃ b o, a = some ⟨b, o, none⟩) (hnil : a = none → l = []) :
    Calls Try.prog 41 #[.slice a l.length c] w fun e w' => ∃ v, e = .returned v ∧ w'.ownsRow w.heap.size 3 1 v l.length (ints l) ∧ Same (fun _ => False) w w' := by
  rcases ha with rfl | ⟨b, o, rfl⟩
  · have hl := hnil rfl
    subst hl
    exact (AnyE.slices_Clone_nil Try.clone41 0 c w).mono fun e w' ⟨he, hw⟩ => ⟨_, he, World.ownsRow_nil .., hw ▸ Same.refl _ _⟩
  · obtain ⟨i3, hi3, hz1, hz2, hz3⟩ := info3
    refine (AnyE.slices_Clone Try.clone41 i3 (.int .i64 0) 1 8 hi3 hz1 hz2 hz3 rfl (by decide) ?_ b o l.length c (ints l) w (by simp) (by unfold maxLen; omega) (by omega) ?_ ?_).mono ?_
    · exact fun w => by kernel_rfl
    · intro j u hj
      rw [List.getElem?_map] at hj
      cases hx : l[j]? with
      | none => rw [hx] at hj; cases hj
      | some x =>
        rw [hx] at hj
        obtain ⟨b', o', hb, hc⟩ := hr j x hx
        simp only [Option.some.injEq, Addr.mk.injEq, and_true] at hb
        obtain ⟨rfl, rfl⟩ := hb
        cases hj
        exact hc
    · intro u hu
      obtain ⟨x, _, rfl⟩ := List.mem_map.1 hu
      rfl
    · rintro e w' ⟨v, he, h1, _, h2⟩
      exact ⟨v, he, h1, same_below h2 (Nat.le_refl _)⟩
theorem app1_bound {id : Int} {vs : List Int} {a : Tri} (h : ∀ v ∈ vs, 0 ≤ v ∧ v ≤ 32767) : ∀ v ∈ Un.app1 id vs a, 0 ≤ v ∧ v ≤ 32767 := by
  intro v hv
  unfold Un.app1 at hv
  split at hv
  · rcases List.mem_or_eq_of_mem_set hv with hv | rfl
    · exact h v hv
    · unfold Un.cl; omega
  · exact h v hv
open Classical in
noncomputable def appS (L : List Tri) (id : Int) (vs : List Int) : Option (List Int) × Int :=
  if ¬ Un.Right L ∨ ∃ v ∈ vs, badV v = true then (none, 2) else (some (Un.appl L id vs), 0)
def OutI (w' : World) (s : Nat) (v : Value) : Option (List Int) → Prop
  | none => v = .slice none 0 0
  | some l => w'.ownsRow s 3 1 v l.length (ints l)
set_option maxHeartbeats 3200000 in
set_option maxRecDepth 16384 in
theorem apply_any (w : World) (a o : Option Addr) (c co : Nat) (L : List Tri) (vs : List Int) (id : Int) (hr : TriR w a L) (ho : IntR w o vs) (hlen : L.length ≤ maxLen) (hol : vs.length ≤ 1000)
    (ha : ∀ x, a = some x → x.block < w.heap.size) (hoa : ∀ x, o = some x → x.block < w.heap.size) (hof : o = none ∨ ∃ b k, o = some ⟨b, k, none⟩) (hnil : o = none → vs = []) :
    Calls Try.prog 19 #[.slice a L.length c, .int .i64 id, .slice o vs.length co] w fun e w' =>
      ∃ v, e = .returned (.tuple #[v, .int .i64 (appS L id vs).2]) ∧ OutI w' w.heap.size v (appS L id vs).1 ∧ Same (fun _ => False) w w' := by
  obtain ⟨R, hRd⟩ : ∃ R, R = appS L id vs := ⟨_, rfl⟩
  rw [← hRd]
  have HRD := Lib.hid hRd
  have hra := right_any w a c L hr hlen ha
  have HR := Lib.hid hr
  have HO := Lib.hid ho
  have HF := Lib.hid (And.intro hof hnil)
  have hL2 : L.length ≤ 9223372036854775807 := by unfold maxLen at hlen; omega
  obtain ⟨n, hn⟩ : ∃ n, n = vs.length := ⟨_, rfl⟩
  obtain ⟨nL, hnL⟩ : ∃ n, n = L.length := ⟨_, rfl⟩
  rw [← hnL] at hra hL2 ⊢
  rw [← hn] at hol ⊢
  have HN := Lib.hid hn
  have HNL := Lib.hid hnL
  clear hr ho hlen hn hnL hRd hof hnil
  go_enter Try.func19, Try.ntmps19
  go_wp2_with fail
  refine hra.mono ?_
  rintro e w1 ⟨b, hb, rfl, hs1⟩
  have HB := Lib.hid hb
  clear hb hra
  cases b with
  | false =>
    have hS : R = (none, 2) := by
      rw [HRD.out, appS, if_pos]
      exact .inl (fun h => by have := HB.out.2 h; cases this)
    have HS := Lib.hid hS
    clear hS
    go_wp2
    go_ret2
    rw [HS.out]
    exact ⟨_, rfl, rfl, hs1⟩
  | true =>
    have HRt : Hid (Un.Right L) := Lib.hid (HB.out.1 rfl)
    clear HB
    have hct := contains39 w1 o co vs (HO.out.same0 hs1) (by have := HN.out; unfold maxLen; omega)
    rw [← HN.out] at hct
    go_wp2_with fail
    refine hct.mono ?_
    rintro e w2 ⟨b2, hb2, rfl, rfl⟩
    have HB2 := Lib.hid hb2
    clear hb2 hct
    cases b2 with
    | true =>
      have hS : R = (none, 2) := by rw [HRD.out, appS, if_pos (.inr (HB2.out.1 rfl))]
      have HS := Lib.hid hS
      clear hS
      go_wp2
      go_ret2
      rw [HS.out]
      exact ⟨_, rfl, rfl, hs1⟩
    | false =>
      have HG : Hid (∀ v ∈ vs, 0 ≤ v ∧ v ≤ 32767) := Lib.hid (fun v hv => by
        have h : ¬ badV v = true := fun hc => by have := HB2.out.2 ⟨v, hv, hc⟩; cases this
        unfold badV at h
        simp at h
        omega)
      have HS : Hid (R = (some (Un.appl L id vs), 0)) := Lib.hid (by
        rw [HRD.out, appS, if_neg]
        rintro (h | h)
        · exact h HRt.out
        · have := HB2.out.2 h; cases this)
      have hcl := clone_ints w2 o co vs (HO.out.same0 hs1) (by have := HN.out; omega) HF.out.1 HF.out.2
      rw [← HN.out] at hcl
      clear HB2 HRD
      go_wp2_with fail
      refine hcl.mono ?_
      rintro e w3 ⟨v, rfl, hown, hs3⟩
      obtain ⟨ao, cap, rfl, hao⟩ := own_row_any2 hown
      have hz1 := hs1.size
      have hz3 := hs3.size
      have HW3 := Lib.hid (And.intro hown (And.intro hs1 hs3))
      clear hcl hown hs3 hs1
      go_wp2
      go_loopw [22] (fun v22 wx => ∃ (i : Nat) (W : World) (cur : List Int), W = wx ∧ i ≤ nL ∧ v22 = .int .i64 i ∧ Hid (cur = (L.take i).foldl (Un.app1 id) vs ∧ (∀ v ∈ cur, 0 ≤ v ∧ v ≤ 32767) ∧ W.ownsRow w2.heap.size 3 1 (.slice ao n cap) n (ints cur) ∧ Same (fun b => w2.heap.size ≤ b) w3 W)) (fun v22 _ => nL - (intOf v22).toNat)
      case atStart => exact ⟨0, _, vs, rfl, by omega, rfl, Lib.hid ⟨by simp, HG.out, HW3.out.1, Same.refl _ _⟩⟩
      case round =>
        obtain ⟨i, W, cur, hW, hi, rfl, HI⟩ := hrel
        subst hW
        have hzw := HI.out.2.2.2.size
        have hcl : cur.length = n := by have := HI.out.2.2.1.1; simpa using this
        by_cases hin : i < nL
        · have hii : (i : Int) < nL := by omega
          obtain ⟨t, ht⟩ : ∃ t, L[i]? = some t := ⟨_, List.getElem?_eq_getElem (by have := HNL.out; omega)⟩
          obtain ⟨x, rfl, hx⟩ := HR.out i t ht
          have hxb := ha x rfl
          have hx2 := hx.same (((HW3.out.2.1.trans HW3.out.2.2).mono (T := fun b => w.heap.size ≤ b) (fun _ _ h => h.elim)).trans (HI.out.2.2.2.mono (fun b _ h => by omega))) (by rw [show (x.add (i * 3)).block = x.block by unfold Addr.add; split <;> rfl]; omega)
          have x0 := hx2.c0
          have x1 := hx2.c1
          have x2 := hx2.c2
          have hok := HRt.out.ok t (List.mem_of_getElem? ht)
          obtain ⟨k1, k2, k3, k4, k5⟩ := hok
          have HST : Hid ((L.take (i + 1)).foldl (Un.app1 id) vs = Un.app1 id cur t) := Lib.hid (by rw [List.take_add_one, ht, HI.out.1]; simp)
          clear hx hx2 ht
          by_cases hid : t.id = id
          · by_cases hnum : t.num < n
            · have e1 : (t.id == id) = true := by simpa using hid
              have e2 : decide (t.num < n) = true := by simpa using hnum
              obtain ⟨k, hk⟩ : ∃ k : Nat, t.num = k := ⟨t.num.toNat, by omega⟩
              obtain ⟨g, rfl⟩ := hao (by omega)
              obtain ⟨y, hy⟩ : ∃ y, cur[k]? = some y := ⟨_, List.getElem?_eq_getElem (by omega)⟩
              have hyb := HI.out.2.1 y (List.mem_of_getElem? hy)
              have d0 : W.cell? ⟨g, k, none⟩ = some (.int .i64 y) := by
                rw [HI.out.2.2.1.cellAt k (by omega), List.getElem?_map, hy]; rfl
              have d1 := HI.out.2.2.1.frozenAt k
              rw [hk] at x1 e2
              have hgb : w2.heap.size ≤ g ∧ g < W.heap.size := ⟨(ownsRow_shape HI.out.2.2.1 rfl).1, (ownsRow_shape HI.out.2.2.1 rfl).2.1⟩
              have hkn : (k : Int) < n := by omega
              have hkn2 : k < n := by omega
              have HK := Lib.hid (And.intro hk hy)
              clear hid hnum hk hy
              have hwr : IntKind.i64.wrap (y + t.n) = y + t.n := by
                simp [IntKind.wrap, IntKind.bits, IntKind.signed]
                omega
              obtain ⟨WB, hWB⟩ : ∃ WB, WB = W.alloc (.cells #[.int .i64 t.id, .int .i64 k, .int .i64 t.n] 45) := ⟨_, rfl⟩
              have hsB : Same (fun _ => False) W WB := by rw [hWB]; exact same_alloc _
              have b1 : WB.cell? ⟨W.heap.size, 1, none⟩ = some (.int .i64 k) := by rw [hWB]; simp [go_sem]
              have b2 : WB.cell? ⟨W.heap.size, 2, none⟩ = some (.int .i64 t.n) := by rw [hWB]; simp [go_sem]
              have d0B := hsB.cell d0 (fun h => h)
              have d1B := hsB.unfrozen d0 d1 (fun h => h)
              have hst := (ownsRow_same HI.out.2.2.1 hsB.drew (fun _ _ h => h)).stored k (.int .i64 (Un.cl (y + t.n)))
              have HST3 := Lib.hid (And.intro hst.1 hsB)
              clear hst hsB d0 d1
              go_wp2_with fail
              rw [← hWB]
              clear hWB
              go_region
              all_goals go_wp2
              all_goals go_round
              all_goals first
                | (simp [intOf]; omega)
                | (have hap : Un.app1 id cur t = cur.set k (Un.cl (y + t.n)) := by
                     obtain ⟨hk, hy⟩ := HK.out
                     have e1' : t.id = id := by simpa using e1
                     have hkt : t.num.toNat = k := by omega
                     rw [Un.app1, if_pos ⟨e1', by omega, by omega⟩, hkt, List.getD_eq_getElem?_getD, hy]
                     rfl
                   refine ⟨i + 1, _, Un.app1 id cur t, rfl, by omega, by go_num, Lib.hid ⟨HST.out.symm, app1_bound HI.out.2.1, ?_, ?_⟩⟩
                   · rw [hap]
                     have h := HST3.out.1
                     rw [← List.map_set] at h
                     exact h
                   · exact HI.out.2.2.2.trans ((HST3.out.2.mono (T := fun b => w2.heap.size ≤ b) (fun _ _ h => h.elim)).trans ((Same.refl _ WB).setCell (a := ⟨g, k, none⟩) _ (.inr (by show w2.heap.size ≤ g; omega))).drew))
            · have e1 : (t.id == id) = true := by simpa using hid
              have e2 : decide (t.num < n) = false := by simpa using hnum
              have HST2 : Hid ((L.take (i + 1)).foldl (Un.app1 id) vs = cur) := Lib.hid (by rw [HST.out, Un.app1, if_neg (by rw [hcl]; omega)])
              clear hid hnum
              go_wp2
              go_round
              case rel => exact ⟨i + 1, _, cur, rfl, by omega, by go_num, Lib.hid ⟨HST2.out.symm, HI.out.2.1, ownsRow_same HI.out.2.2.1 (same_alloc _) (fun _ _ h => h), HI.out.2.2.2.alloc _⟩⟩
              case measure => simp [intOf]; omega
          · have e1 : (t.id == id) = false := by simpa using hid
            have HST2 : Hid ((L.take (i + 1)).foldl (Un.app1 id) vs = cur) := Lib.hid (by rw [HST.out, Un.app1, if_neg (by omega)])
            clear hid
            go_wp2
            go_round
            case rel => exact ⟨i + 1, _, cur, rfl, by omega, by go_num, Lib.hid ⟨HST2.out.symm, HI.out.2.1, ownsRow_same HI.out.2.2.1 (same_alloc _) (fun _ _ h => h), HI.out.2.2.2.alloc _⟩⟩
            case measure => simp [intOf]; omega
        · obtain rfl : i = nL := by omega
          have hR : R = (some cur, 0) := by
            rw [HS.out, HI.out.1, HNL.out, List.take_length, Un.foldl_app1 id L HRt.out.asc vs HG.out]
          have HR2 := Lib.hid hR
          clear hR
          go_wp2
          go_ret2
          rw [HR2.out]
          refine ⟨_, rfl, ?_, (((HW3.out.2.1.trans HW3.out.2.2).mono (T := fun b => w2.heap.size ≤ b) (fun _ _ h => h.elim)).trans HI.out.2.2.2).mono (fun b hb h => by omega)⟩
          show W.ownsRow w.heap.size 3 1 _ cur.length (ints cur)
          rw [hcl]
          exact ownsRow_base HI.out.2.2.1 hz1
end Go.Proofs.Ytcnocfboklhjnaa
