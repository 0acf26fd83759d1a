/- undo: the walk of UndoOwn. Condition: the arguments' form. -/
import Derived.Test.YtcnocfboklhjnaaCl
import Derived.Test.YtcnocfboklhjnaaSh
import Derived.Test.YtcnocfboklhjnaaCt
import Derived.Test.YtcnocfboklhjnaaAr
import Derived.Test.YtcnocfboklhjnaaTr
namespace Go.Proofs.Ytcnocfboklhjnaa
open Go.RowKit Go.Shelf
attribute [local go_sem] Oper.semAt_some

def Only (A : Act) (X : World) : Exit → Act → World → Prop
  | .normal, a, w => a = A ∧ w = X
  | _, _, _ => False
theorem wp_to {P : Program} {c : Code} {Q : Exit → Act → World → Prop} {a : Act} {w : World} (A : Act) (X : World) (h1 : c.wp P (Only A X) a w) (h2 : Q .normal A X) : c.wp P Q a w :=
  wp_mono h1 (by
    intro e a' w' h
    cases e with
    | normal => obtain ⟨rfl, rfl⟩ := h; exact h2
    | _ => exact h.elim)
theorem own_nilcap {w : World} {base : Nat} {e : TypeId} {size n : Nat} {xs : List Value} {c m : Nat} (h : w.ownsRow base e size (.slice none m c) n xs) : n = 0 ∧ c = 0 := by
  rcases h.2 with ⟨hv, h0⟩ | ⟨g, cap, cur, hv, _⟩
  · cases hv; exact ⟨h0, rfl⟩
  · cases hv
/-- A row of twelve is made, and a list laid into it. -/
theorem mk_app (w : World) (a : Option Addr) (c : Nat) (l : List Int) (hr : IntR w a l) (hl : l.length ≤ 12) (hnil : a = none → l = [] ∧ c = 0) (hsp : a = none ∨ ∃ b o, a = some ⟨b, o, none⟩) :
    ∃ W1, (Instr.makeSlice 33 (.int .i64 0) (.int .i64 12)).run Try.prog w = .ok (.slice (some ⟨w.heap.size, 0, none⟩) 0 12) W1 ∧
      ∃ v' w', (Builtin.append_ #[33, 33] 33 #[.slice (some ⟨w.heap.size, 0, none⟩) 0 12, .slice a l.length c]).run Try.prog W1 = .ok v' w' ∧ w'.ownsRow w.heap.size 3 1 v' l.length (ints l) ∧ Same (fun b => w.heap.size ≤ b) w w' := by
  obtain ⟨i3, hi3, hz1, hz2, hz3⟩ := info3
  have hmk := run_make (P := Try.prog) w 33 3 i3 (.int .i64 0) Try.underlying33 hi3 hz1 .i64 .i64 0 12 (by omega) (by omega) (by omega) (by omega)
  obtain ⟨mc, hmc⟩ : ∃ mc, mc = madeCells (Value.int .i64 0).cells ((12 : Int).toNat * i3.size) := ⟨_, rfl⟩
  have hms : mc.size = 12 * 1 := by rw [hmc, size_madeCells, hz2]; rfl
  rw [← hmc] at hmk
  have hown := World.ownsRow_made (base := w.heap.size) (e := 3) (size := 1) w mc 12 (Nat.le_refl _) (by unfold maxLen; omega) hms
  clear hmc
  have hs1 : Same (fun _ => False) w (w.alloc (.cells mc 3)) := same_alloc _
  have hz := hs1.size
  refine ⟨_, hmk, ?_⟩
  rcases hsp with rfl | ⟨b, o, rfl⟩
  · obtain ⟨rfl, rfl⟩ := hnil rfl
    exact ⟨_, _, run_append_owned_none (P := Try.prog) _ w.heap.size 33 33 3 i3 1 Try.underlying33 hi3 _ 0 _ hown, hown, hs1.mono (fun _ _ h => h.elim)⟩
  · have hr1 := hr.same0 hs1
    obtain ⟨v', w', h1, h2, h3, -⟩ := run_append_same (P := Try.prog) (w.alloc (.cells mc 3)) w.heap.size 33 33 3 i3 (.int .i64 0) 1 8 Try.underlying33 hi3 hz1 hz2 hz3 rfl (by decide) _ 0 _ hown ⟨b, o, none⟩ l.length c (ints l) (by simp) (fun j u hj => by
      rw [List.getElem?_map] at hj
      cases hx : l[j]? with
      | none => rw [hx] at hj; cases hj
      | some x =>
        rw [hx] at hj
        cases hj
        obtain ⟨b', o', hb, hc⟩ := hr1 j x hx
        simp only [Option.some.injEq, Addr.mk.injEq, and_true] at hb
        obtain ⟨rfl, rfl⟩ := hb
        rw [addn]; exact hc) (fun u hu => by obtain ⟨x, _, rfl⟩ := List.mem_map.1 hu; rfl) (by unfold maxLen; omega) (by omega) (by omega)
    rw [Nat.zero_add, List.nil_append] at h2
    exact ⟨v', w', h1, h2, (hs1.mono (T := fun b => w.heap.size ≤ b) (fun _ _ h => h.elim)).trans (h3.mono (fun b _ h => by simp [Value.ownBlock] at h; omega))⟩
theorem out_own {w : World} {s : Nat} {v : Value} {o : Option (List Tri)} (h : OutL w s v o) : w.ownsRow s 45 3 v (o.getD []).length (flat3 (o.getD [])) := by
  cases o with
  | none =>
    have hv : v = .slice none 0 0 := h
    subst hv
    exact World.ownsRow_nil ..
  | some l => exact h
theorem out_ownI {w : World} {s : Nat} {v : Value} {o : Option (List Int)} (h : OutI w s v o) : w.ownsRow s 3 1 v (o.getD []).length (ints (o.getD [])) := by
  cases o with
  | none =>
    have hv : v = .slice none 0 0 := h
    subst hv
    exact World.ownsRow_nil ..
  | some l => exact h
theorem recS_len (L ops : List Tri) (id : Int) : ((recS L id ops).1.getD []).length ≤ 64 := by
  unfold recS
  split
  · simp
  · split
    · simp
    · split
      · simp
      · split
        · simp
        · simp; omega
theorem clrS_len (L : List Tri) (id num : Int) : ((clrS L id num).1.getD []).length ≤ 64 := by
  unfold clrS
  split
  · rename_i h; exact (Un.clr_right h id num).len
  · simp
theorem appS_len (L : List Tri) (id : Int) (vs : List Int) : ((appS L id vs).1.getD []).length ≤ vs.length := by
  unfold appS
  split
  · simp
  · simp [Un.appl]
set_option maxHeartbeats 6400000 in
set_option maxRecDepth 100000 in
theorem own_walk (w : World) (a o q : Option Addr) (c co cq : Nat) (L0 ops0 : List Tri) (vs0 : List Int) (id num : Int) (hA : ArgT w a c L0) (hO : ArgT w o co ops0) (hQ : ArgI w q cq vs0) :
    Calls Try.prog 7 #[.slice a L0.length c, .int .i64 id, .int .i64 num, .slice o ops0.length co, .slice q vs0.length cq] w fun e w' => e = .returned (.bool true) ∧ Same (fun _ => False) w w' := by
  have hsh := shown_any w
  have HA := Lib.hid hA
  have HO := Lib.hid hO
  have HQ := Lib.hid hQ
  have hvn := hQ.len
  have hvc := hQ.cap
  have hvn2 : vs0.length ≤ 9223372036854775807 := by unfold maxLen at hvn; omega
  have hon := hO.len
  have hoc := hO.cap
  obtain ⟨n, hn⟩ : ∃ n, n = L0.length := ⟨_, rfl⟩
  obtain ⟨no, hno⟩ : ∃ n, n = ops0.length := ⟨_, rfl⟩
  obtain ⟨nv, hnv⟩ : ∃ n, n = vs0.length := ⟨_, rfl⟩
  rw [← hno] at hon hoc
  rw [← hnv] at hvn hvc hvn2
  rw [← hn, ← hno, ← hnv]
  have HN := Lib.hid (And.intro hn (And.intro hno hnv))
  clear hn hno hnv hA hO hQ
  go_enter Try.func7, Try.ntmps7
  go_wp2_with fail
  refine hsh.mono ?_
  rintro e w1 ⟨rfl, hs1⟩
  have hct := cut_any w1 a c L0 (HA.out.row.same0 hs1) HA.out.len HA.out.cap HA.out.nil (fun x hx => by have := HA.out.blk x hx; have := hs1.size; omega)
  rw [← HN.out.1] at hct
  clear hsh
  go_wp2_with fail
  refine hct.mono ?_
  rintro e w2 ⟨v, rfl, hown, hs2⟩
  obtain ⟨L, hL⟩ : ∃ L, L = L0.take 70 := ⟨_, rfl⟩
  have hL70 : L.length ≤ 70 := by rw [hL, List.length_take]; omega
  rw [← hL] at hown
  obtain ⟨ao, cap, rfl, hao, hab, han, hac⟩ := own_tri hown
  have hsp := own_spot hown
  have hnc : ao = none → cap = 0 := fun h => by subst h; exact (own_nilcap hown).2
  have H2 := Lib.hid (And.intro (hs1.trans hs2) hao)
  have hct2 := cut_any w2 ao cap L hao (by unfold maxLen; omega) hac (fun h => ⟨han h, hnc h⟩) (fun x hx => (hab x hx).2)
  rw [List.take_of_length_le hL70] at hct2
  clear hct hown hao hs1 hs2 hL
  obtain ⟨nL, hnL⟩ : ∃ n, n = L.length := ⟨_, rfl⟩
  rw [← hnL] at hct2 ⊢
  have HNL := Lib.hid hnL
  clear hnL
  go_wp2_with fail
  refine hct2.mono ?_
  rintro e w3 ⟨v3, rfl, hown3, hs3⟩
  rw [HNL.out] at hown3
  obtain ⟨wo, capw, rfl, hwo, hwb, -⟩ := own_tri hown3
  rw [← HNL.out]
  have hs03 := H2.out.1.trans hs3
  have hz3 := hs3.size
  have hz03 := hs03.size
  have H3 := Lib.hid (And.intro hs03 (And.intro (H2.out.2.same0 hs3) hwo))
  obtain ⟨vs, hvs⟩ : ∃ vs, vs = vs0.take 12 := ⟨_, rfl⟩
  have hvl : vs.length ≤ 12 := by rw [hvs, List.length_take]; omega
  have hvm : min (nv : Int) 12 = (vs.length : Nat) := by rw [hvs, List.length_take, ← HN.out.2.2]; omega
  have hvcq : vs.length ≤ cq := by rw [hvs, List.length_take, ← HN.out.2.2]; omega
  obtain ⟨W4, hmk, v4, w4, hrun, hown4, hs4⟩ := mk_app w3.drew q cq vs (by rw [hvs]; exact (HQ.out.row.same0 hs03.drew).take 12) hvl (fun h => by have := HQ.out.nil h; rw [hvs, this.1]; exact ⟨rfl, this.2⟩) HQ.out.spot
  have hwz : w3.drew.heap.size = w3.heap.size := rfl
  rw [hwz] at hmk hrun hown4 hs4
  obtain ⟨yo, cap4, rfl, hyo, hyb, hyf, hyn, hyc⟩ := own_int hown4
  have hnc4 : yo = none → cap4 = 0 := fun h => by subst h; exact (own_nilcap hown4).2
  have hs34 : Same (fun b => w3.heap.size ≤ b) w3 w4 := ((Same.refl (fun b => w3.heap.size ≤ b) w3).drew).trans hs4
  have hz4 := hs34.size
  obtain ⟨W5, hmk5, v5, w5, hrun5, hown5, hs5⟩ := mk_app w4 yo cap4 vs hyo hvl (fun h => ⟨hyn h, hnc4 h⟩) hyf
  obtain ⟨zo, cap5, rfl, hzo, hzb, -⟩ := own_int hown5
  have hz5 := hs5.size
  have H5 := Lib.hid (And.intro hs34 (And.intro hs5 (And.intro hyo hzo)))
  have HR5 := Lib.hid hrun5
  have HVS := Lib.hid hvs
  obtain ⟨mv, hmv⟩ : ∃ m, m = vs.length := ⟨_, rfl⟩
  rw [← hmv] at hvm hvcq hrun HR5 hvl
  have HMV := Lib.hid hmv
  clear hct2 hown3 hwo hs03 hs3 hs4 hown4 hyo hs34 hown5 hzo hs5 hrun5 hvs hmv
  go_wp2_with fail
  apply wp_to (X := w4)
  · go_region_law (refine step_append_run rfl (.tmp 28) (.tmp 33) 33 rfl _ _ rfl rfl hrun ?_)
    all_goals go_wp2
    all_goals exact ⟨rfl, rfl⟩
  go_wp2_with (at_builtin; refine wpList_append_run rfl (.tmp 35) (.tmp 36) 33 rfl _ _ rfl rfl HR5.out ?_)
  have hs35 : Same (fun b => w3.heap.size ≤ b) w3 w5 := H5.out.1.trans (H5.out.2.1.mono (fun b _ h => by omega))
  have HROWS : Hid (TriR w5 ao L ∧ TriR w5 wo L ∧ IntR w5 yo vs ∧ IntR w5 zo vs) := Lib.hid ⟨H3.out.2.1.same hs35 (fun x hx h => by have := (hab x hx).2; omega), H3.out.2.2.same hs35 (fun x hx h => by have := (hwb x hx).2; omega), H5.out.2.2.1.same H5.out.2.1 (fun x hx h => by have := (hyb x hx).2; omega), H5.out.2.2.2⟩
  have hs05 : Same (fun _ => False) w w5 := ((H3.out.1.mono (T := fun b => w.heap.size ≤ b) (fun _ _ h => h.elim)).trans (hs35.mono (fun b _ h => by omega))).mono (fun b hb h => by omega)
  have HS05 := Lib.hid hs05
  have hz05 := hs05.size
  have hfw := few_any w5 o co ops0 (by rw [← HN.out.2.1]; exact hon) (by rw [← HN.out.2.1]; exact hoc)
  rw [← HN.out.2.1] at hfw
  obtain ⟨ops, hops⟩ : ∃ ops, ops = ops0.take 12 := ⟨_, rfl⟩
  have hop12 : ops.length ≤ 12 := by rw [hops, List.length_take]; omega
  rw [← hops] at hfw
  obtain ⟨p, hp⟩ : ∃ p, p = ops.length := ⟨_, rfl⟩
  rw [← hp] at hfw
  have HP := Lib.hid (And.intro hp hops)
  clear hs35 hs05 hmk hmk5 hrun hp hops
  refine hfw.mono ?_
  rintro e w6 ⟨rfl, hs6⟩
  have hz6 := hs6.size
  have hrc := record_any w6 ao o cap co L ops id (HROWS.out.1.same0 hs6) (by rw [HP.out.2]; exact (HO.out.row.same0 (HS05.out.trans hs6)).take 12) (by unfold maxLen; omega) (by unfold maxLen; omega) (fun x hx => by have := (hab x hx).2; omega) (fun x hx => by have := HO.out.blk x hx; omega)
  rw [← HNL.out, ← HP.out.1] at hrc
  have HS6 := Lib.hid hs6
  clear hfw hs6
  go_wp2_with fail
  refine hrc.mono ?_
  rintro e w7 ⟨v7, rfl, ho7, hs7⟩
  have hown7 := out_own ho7
  have hl7 := recS_len L ops id
  obtain ⟨r1, hr1⟩ : ∃ r, r = (recS L id ops).1.getD [] := ⟨_, rfl⟩
  rw [← hr1] at hown7 hl7
  obtain ⟨bo, cap7, rfl, hbo⟩ := own_row_any2 hown7
  obtain ⟨n1, hn1⟩ : ∃ n, n = r1.length := ⟨_, rfl⟩
  rw [← hn1] at hown7 hl7 hbo ⊢
  obtain ⟨er, her⟩ : ∃ er, er = (recS L id ops).2 := ⟨_, rfl⟩
  rw [← her]
  have hz7 := hs7.size
  have H7 := Lib.hid (And.intro hown7 (HS6.out.trans hs7))
  clear hrc ho7 hown7 hs7 hr1 hn1 her
  go_wp2
  go_loopw [16] (fun v16 wx => ∃ (i : Nat) (W : World) (xs : List Value), W = wx ∧ i ≤ n1 ∧ v16 = .int .i64 i ∧ Hid (W.ownsRow w6.heap.size 45 3 (.slice bo n1 cap7) n1 xs ∧ Same (fun b => w5.heap.size ≤ b) w5 W)) (fun v16 _ => n1 - (intOf v16).toNat)
  case atStart => exact ⟨0, _, _, rfl, by omega, rfl, Lib.hid ⟨H7.out.1, H7.out.2.mono (fun _ _ h => h.elim)⟩⟩
  case round =>
    obtain ⟨i, W, xs, hW, hi, rfl, HI⟩ := hrel
    subst hW
    have hzw := HI.out.2.size
    have hxl : xs.length = n1 * 3 := HI.out.1.1
    by_cases hin : i < n1
    · have hii : (i : Int) < n1 := by omega
      obtain ⟨g, rfl⟩ := hbo (by omega)
      have d0 : W.cell? ⟨g, i * 3 + 2, none⟩ = some (xs[i * 3 + 2]'(by omega)) := by rw [HI.out.1.cellAt (i * 3 + 2) (by omega), List.getElem?_eq_getElem]
      have d1 := HI.out.1.frozenAt (i * 3 + 2)
      have hgb : w6.heap.size ≤ g ∧ g < W.heap.size := ⟨(ownsRow_shape HI.out.1 rfl).1, (ownsRow_shape HI.out.1 rfl).2.1⟩
      generalize xs[i * 3 + 2]'(by omega) = u at d0
      go_wp2
      go_round
      case rel => exact ⟨i + 1, _, _, rfl, by omega, by go_num, Lib.hid ⟨(HI.out.1.stored (i * 3 + 2) (.int .i64 77777)).1, HI.out.2.trans ((Same.refl _ W).setCell (a := ⟨g, i * 3 + 2, none⟩) _ (.inr (by show w5.heap.size ≤ g; omega)))⟩⟩
      case measure => simp [intOf]; omega
    · obtain rfl : i = n1 := by omega
      have H8 : Hid (Same (fun b => w5.heap.size ≤ b) w5 W) := Lib.hid HI.out.2
      have hcl := clear_any W ao cap L id num (HROWS.out.1.same H8.out (fun x hx h => by have := (hab x hx).2; omega)) (by omega) (fun x hx => by have := (hab x hx).2; omega) hsp han
      rw [← HNL.out] at hcl
      clear HI H7
      go_wp2_with fail
      refine hcl.mono ?_
      rintro e w8 ⟨v8, rfl, ho8, hs8⟩
      have hown8 := out_own ho8
      have hl8 := clrS_len L id num
      obtain ⟨r2, hr2⟩ : ∃ r, r = (clrS L id num).1.getD [] := ⟨_, rfl⟩
      rw [← hr2] at hown8 hl8
      obtain ⟨co2, cap8, rfl, hco⟩ := own_row_any2 hown8
      obtain ⟨n2, hn2⟩ : ∃ n, n = r2.length := ⟨_, rfl⟩
      rw [← hn2] at hown8 hl8 hco ⊢
      obtain ⟨er2, her2⟩ : ∃ er, er = (clrS L id num).2 := ⟨_, rfl⟩
      rw [← her2]
      have hz8 := hs8.size
      have H9 := Lib.hid (And.intro hown8 (H8.out.trans (hs8.mono (fun _ _ h => h.elim))))
      clear hcl ho8 hown8 hs8 hr2 hn2 her2
      go_wp2
      go_loopw [19] (fun v19 wx => ∃ (j : Nat) (W2 : World) (xs2 : List Value), W2 = wx ∧ j ≤ n2 ∧ v19 = .int .i64 j ∧ Hid (W2.ownsRow W.heap.size 45 3 (.slice co2 n2 cap8) n2 xs2 ∧ Same (fun b => w5.heap.size ≤ b) w5 W2)) (fun v19 _ => n2 - (intOf v19).toNat)
      case atStart => exact ⟨0, _, _, rfl, by omega, rfl, Lib.hid ⟨H9.out.1, H9.out.2⟩⟩
      case round =>
        obtain ⟨j, W2, xs2, hW2, hj, rfl, HJ⟩ := hrel
        subst hW2
        have hzw2 := HJ.out.2.size
        have hxl2 : xs2.length = n2 * 3 := HJ.out.1.1
        by_cases hjn : j < n2
        · have hii : (j : Int) < n2 := by omega
          obtain ⟨g, rfl⟩ := hco (by omega)
          have d0 : W2.cell? ⟨g, j * 3 + 2, none⟩ = some (xs2[j * 3 + 2]'(by omega)) := by rw [HJ.out.1.cellAt (j * 3 + 2) (by omega), List.getElem?_eq_getElem]
          have d1 := HJ.out.1.frozenAt (j * 3 + 2)
          have hgb : W.heap.size ≤ g ∧ g < W2.heap.size := ⟨(ownsRow_shape HJ.out.1 rfl).1, (ownsRow_shape HJ.out.1 rfl).2.1⟩
          generalize xs2[j * 3 + 2]'(by omega) = u at d0
          go_wp2
          go_round
          case rel => exact ⟨j + 1, _, _, rfl, by omega, by go_num, Lib.hid ⟨(HJ.out.1.stored (j * 3 + 2) (.int .i64 77777)).1, HJ.out.2.trans ((Same.refl _ W2).setCell (a := ⟨g, j * 3 + 2, none⟩) _ (.inr (by show w5.heap.size ≤ g; omega)))⟩⟩
          case measure => simp [intOf]; omega
        · obtain rfl : j = n2 := by omega
          have H10 : Hid (Same (fun b => w5.heap.size ≤ b) w5 W2) := Lib.hid HJ.out.2
          have hap := apply_any W2 ao yo cap cap4 L vs id (HROWS.out.1.same H10.out (fun x hx h => by have := (hab x hx).2; omega)) (HROWS.out.2.2.1.same H10.out (fun x hx h => by have := (hyb x hx).2; omega)) (by unfold maxLen; omega) (by have := HMV.out; omega) (fun x hx => by have := (hab x hx).2; omega) (fun x hx => by have := (hyb x hx).2; omega) hyf hyn
          rw [← HNL.out, ← HMV.out] at hap
          clear HJ H9
          go_wp2_with fail
          refine hap.mono ?_
          rintro e w9 ⟨v9, rfl, ho9, hs9⟩
          have hown9 := out_ownI ho9
          have hl9 := appS_len L id vs
          obtain ⟨r3, hr3⟩ : ∃ r, r = (appS L id vs).1.getD [] := ⟨_, rfl⟩
          rw [← hr3] at hown9 hl9
          rw [← HMV.out] at hl9
          obtain ⟨do_, cap9, rfl, hdo⟩ := own_row_any2 hown9
          obtain ⟨n3, hn3⟩ : ∃ n, n = r3.length := ⟨_, rfl⟩
          rw [← hn3] at hown9 hl9 hdo ⊢
          obtain ⟨er3, her3⟩ : ∃ er, er = (appS L id vs).2 := ⟨_, rfl⟩
          rw [← her3]
          have hz9 := hs9.size
          have H11 := Lib.hid (And.intro hown9 (H10.out.trans (hs9.mono (fun _ _ h => h.elim))))
          clear hap ho9 hown9 hs9 hr3 hn3 her3
          go_wp2
          go_loopw [22] (fun v22 wx => ∃ (k : Nat) (W3 : World) (xs3 : List Value), W3 = wx ∧ k ≤ n3 ∧ v22 = .int .i64 k ∧ Hid (W3.ownsRow W2.heap.size 3 1 (.slice do_ n3 cap9) n3 xs3 ∧ Same (fun b => w5.heap.size ≤ b) w5 W3)) (fun v22 _ => n3 - (intOf v22).toNat)
          case atStart => exact ⟨0, _, _, rfl, by omega, rfl, Lib.hid ⟨H11.out.1, H11.out.2⟩⟩
          case round =>
            obtain ⟨k, W3, xs3, hW3, hk, rfl, HK⟩ := hrel
            subst hW3
            have hzw3 := HK.out.2.size
            have hxl3 : xs3.length = n3 := by have := HK.out.1.1; omega
            by_cases hkn : k < n3
            · have hii : (k : Int) < n3 := by omega
              obtain ⟨g, rfl⟩ := hdo (by omega)
              have d0 : W3.cell? ⟨g, k, none⟩ = some (xs3[k]'(by omega)) := by rw [HK.out.1.cellAt k (by omega), List.getElem?_eq_getElem]
              have d1 := HK.out.1.frozenAt k
              have hgb : W2.heap.size ≤ g ∧ g < W3.heap.size := ⟨(ownsRow_shape HK.out.1 rfl).1, (ownsRow_shape HK.out.1 rfl).2.1⟩
              generalize xs3[k]'(by omega) = u at d0
              go_wp2
              go_round
              case rel => exact ⟨k + 1, _, _, rfl, by omega, by go_num, Lib.hid ⟨(HK.out.1.stored k (.int .i64 (-1))).1, HK.out.2.trans ((Same.refl _ W3).setCell (a := ⟨g, k, none⟩) _ (.inr (by show w5.heap.size ≤ g; omega)))⟩⟩
              case measure => simp [intOf]; omega
            · obtain rfl : k = n3 := by omega
              have H12 : Hid (Same (fun b => w5.heap.size ≤ b) w5 W3) := Lib.hid HK.out.2
              have hsm := same_any W3 ao wo cap capw L (HROWS.out.1.same H12.out (fun x hx h => by have := (hab x hx).2; omega)) (HROWS.out.2.1.same H12.out (fun x hx h => by have := (hwb x hx).2; omega)) (by unfold maxLen; omega)
              rw [← HNL.out] at hsm
              clear HK H11
              go_wp2_with fail
              refine hsm.mono ?_
              rintro e w10 ⟨rfl, hs10⟩
              have H13 := Lib.hid (H12.out.trans (hs10.mono (T := fun b => w5.heap.size ≤ b) (fun _ _ h => h.elim)))
              have hin2 := ints_any w10 yo zo cap4 cap5 vs (HROWS.out.2.2.1.same H13.out (fun x hx h => by have := (hyb x hx).2; omega)) (HROWS.out.2.2.2.same H13.out (fun x hx h => by have := (hzb x hx).2; omega)) (by have := HMV.out; unfold maxLen; omega)
              rw [← HMV.out] at hin2
              clear hsm hs10
              go_wp2_with fail
              refine hin2.mono ?_
              rintro e w11 ⟨rfl, hs11⟩
              have H14 := Lib.hid (H13.out.trans (hs11.mono (T := fun b => w5.heap.size ≤ b) (fun _ _ h => h.elim)))
              clear hin2 hs11
              go_wp2
              go_ret
              exact ⟨rfl, ((HS05.out.mono (T := fun b => w.heap.size ≤ b) (fun _ _ h => h.elim)).trans (H14.out.mono (fun b _ h => by omega))).mono (fun b hb h => by omega)⟩
end Go.Proofs.Ytcnocfboklhjnaa
