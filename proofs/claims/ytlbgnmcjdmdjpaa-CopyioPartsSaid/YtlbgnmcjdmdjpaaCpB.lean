/- Something done with a span's parts. Conditions: what is done keeps its own account. -/
import Derived.Test.YtlbgnmcjdmdjpaaCpA
import Derived.Test.YtlbgnmcjdmdjpaaI
namespace Go.Proofs.Ytlbgnmcjdmdjpaa
open Go.RowKit Go.Shelf
attribute [local go_sem] Oper.semAt_some

set_option maxHeartbeats 6400000 in
set_option maxRecDepth 16384 in
theorem each_any (w : World) (f fb : Nat) (root : Int) (a0 n0 : Nat) (M0 : Mm) (hle : a0 + n0 ≤ 20480) (g : FuncId) (caps : Array Value)
    (heg : ∀ args w, (callFunc g args).run Try.prog w = .ok (.enter g args) w)
    (I : Nat → Nat → Nat → Mm → World → Prop) (X : Nat → Int → World → Prop)
    (hmem : ∀ hi a n M W, I hi a n M W → MemAt W f fb M)
    (hcl : ∀ hi a n M W W', I hi a n M W → Same (fun b => w.heap.size ≤ b ∧ b < hi) W W' → I hi a n M W')
    (hX : ∀ hi er W W', X hi er W → Same (fun b => w.heap.size ≤ b ∧ b < hi) W W' → X hi er W')
    (hfail : ∀ hi a n M W, 0 < n → I hi a n M W → (M.walk root ((a : Int) / 64)).2.2 ≠ 0 → X hi 30 W)
    (hdo : ∀ hi a n M W0 W, 0 < n → a + n ≤ 20480 → I hi a n M W0 → hi ≤ W0.heap.size → Same (fun b => w.heap.size ≤ b ∧ b < hi) W0 W → (M.walk root ((a : Int) / 64)).2.2 = 0 →
      Calls Try.prog g (#[.agg #[.int .i64 ((a : Int) / 64), .int .i64 ((a : Int) % 64), .int .i64 (pk a n)], .int .i64 (M.walk root ((a : Int) / 64)).1, .int .i64 (M.walk root ((a : Int) / 64)).2.1] ++ caps) W fun e W' =>
        ((e = .returned (.int .i64 0) ∧ ∃ M', I hi (a + pk a n) (n - pk a n) M' W') ∨ (∃ er, er ≠ 0 ∧ e = .returned (.int .i64 er) ∧ X hi er W')) ∧ Same (fun b => b < W0.heap.size ∧ (b < w.heap.size ∨ hi ≤ b)) W W')
    (hinit : ∀ W1, Same (fun _ => False) w W1 → I W1.heap.size a0 n0 M0 W1) :
    Calls Try.prog 76 #[.pointer (some ⟨f, 0, none⟩), .int .i64 root, .int .i64 a0, .int .i64 n0, .func (.func g) #[] caps] w fun e W =>
      (e = .returned (.int .i64 0) ∧ ∃ hi a M, I hi a 0 M W) ∨ (∃ er hi, er ≠ 0 ∧ e = .returned (.int .i64 er) ∧ X hi er W) := by
  have HMEM := Lib.hid @hmem
  have HCL := Lib.hid @hcl
  have HX := Lib.hid @hX
  have HFAIL := Lib.hid @hfail
  have HDO := Lib.hid @hdo
  have HINIT := Lib.hid @hinit
  have HEG := Lib.hid @heg
  clear hmem hcl hX hfail hdo hinit heg
  refine (callsIn_wide (n := 0)).1 ?_
  refine callsIn_of_wp_marks Try.func76 rfl trivial ?_ rfl
  simp only [Try.ntmps76, List.size_toArray, List.length_cons, List.length_nil, Nat.reduceAdd, Nat.reduceSub, Array.replicate_succ, Array.replicate_zero, List.push_toArray, List.append_toArray, List.nil_append, List.cons_append]
  gi_wp2
  refine wpIn_scope_straight ?_
  gi_wp2
  refine wpIn_label ?_
  gi_wp2_with (gi_at_call 107; refine CallsIn.mono (callsIn_wide.2 (parts_any _ _ _)) ?_; rintro e w' ⟨rfl, rfl⟩)
  refine range_wide2 (gf := 120) (lb := #[.pointer (some ⟨w.heap.size + 1 + 1 + 1 + 1 + 1, 0, none⟩), .pointer (some ⟨w.heap.size + 1 + 1 + 1 + 1, 0, none⟩)]) rfl (enters_of Try.func120 (by kernel_rfl) rfl) ?_
  intro rec D L W1 hD hL hrule hs1 hl1 hd1 hrec
  simp only [World.size_alloc] at hD
  have hcell : ∀ {b o : Nat} {v : Value}, ((((((w.alloc (.cells #[.pointer (some ⟨f, 0, none⟩)] 24)).alloc (.cells #[.int .i64 root] 3)).alloc (.cells #[.func (.func g) #[] caps] 141)).alloc (.cells #[.int .i64 0] 25)).alloc (.cells #[.int .i64 a0] 3)).alloc (.cells #[.int .i64 n0] 3)).cell? ⟨b, o, none⟩ = some v → W1.cell? ⟨b, o, none⟩ = some v :=
    fun h => hs1.cell h (fun h => h)
  have hfroz : ∀ {b o : Nat} {v : Value}, ((((((w.alloc (.cells #[.pointer (some ⟨f, 0, none⟩)] 24)).alloc (.cells #[.int .i64 root] 3)).alloc (.cells #[.func (.func g) #[] caps] 141)).alloc (.cells #[.int .i64 0] 25)).alloc (.cells #[.int .i64 a0] 3)).alloc (.cells #[.int .i64 n0] 3)).cell? ⟨b, o, none⟩ = some v →
      ((((((w.alloc (.cells #[.pointer (some ⟨f, 0, none⟩)] 24)).alloc (.cells #[.int .i64 root] 3)).alloc (.cells #[.func (.func g) #[] caps] 141)).alloc (.cells #[.int .i64 0] 25)).alloc (.cells #[.int .i64 a0] 3)).alloc (.cells #[.int .i64 n0] 3)).frozen? ⟨b, o, none⟩ = false → W1.frozen? ⟨b, o, none⟩ = false :=
    fun h h2 => hs1.unfrozen h h2 (fun h => h)
  have c0 : W1.cell? ⟨w.heap.size, 0, none⟩ = some (.pointer (some ⟨f, 0, none⟩)) := hcell (by simp [go_sem])
  have c1 : W1.cell? ⟨w.heap.size + 1, 0, none⟩ = some (.int .i64 root) := hcell (by simp [go_sem])
  have c2 : W1.cell? ⟨w.heap.size + 1 + 1, 0, none⟩ = some (.func (.func g) #[] caps) := hcell (by simp [go_sem])
  have c3 : W1.cell? ⟨w.heap.size + 1 + 1 + 1, 0, none⟩ = some (.int .i64 0) := hcell (by simp [go_sem])
  have c4 : W1.cell? ⟨w.heap.size + 1 + 1 + 1 + 1, 0, none⟩ = some (.int .i64 a0) := hcell (by simp [go_sem])
  have c5 : W1.cell? ⟨w.heap.size + 1 + 1 + 1 + 1 + 1, 0, none⟩ = some (.int .i64 n0) := hcell (by simp [go_sem])
  have z3 : W1.frozen? ⟨w.heap.size + 1 + 1 + 1, 0, none⟩ = false := hfroz (v := .int .i64 0) (by simp [go_sem]) (by simp [go_sem])
  have z4 : W1.frozen? ⟨w.heap.size + 1 + 1 + 1 + 1, 0, none⟩ = false := hfroz (v := .int .i64 a0) (by simp [go_sem]) (by simp [go_sem])
  have z5 : W1.frozen? ⟨w.heap.size + 1 + 1 + 1 + 1 + 1, 0, none⟩ = false := hfroz (v := .int .i64 n0) (by simp [go_sem]) (by simp [go_sem])
  have hsw : Same (fun _ => False) w W1 := ((((((same_alloc _).alloc _).alloc _).alloc _).alloc _).alloc _).trans hs1
  have hI0 := HINIT.out W1 hsw
  have hLW1 := (Array.getElem?_eq_some_iff.1 hl1).1
  have hDW1 := (Array.getElem?_eq_some_iff.1 hd1).1
  obtain ⟨hi, hhi⟩ : ∃ hi, hi = W1.heap.size := ⟨_, rfl⟩
  rw [← hhi] at hI0 hLW1 hDW1
  have HHI := Lib.hid hhi
  have hhi1 : hi ≤ W1.heap.size := by omega
  clear hcell hfroz hs1 hhi
  refine Calls.mono (parts1 L (w.heap.size + 1 + 1 + 1 + 1) (w.heap.size + 1 + 1 + 1 + 1 + 1) (by omega)
    (fun a n W => ∃ M, I hi a n M W ∧ W.cell? ⟨w.heap.size, 0, none⟩ = some (.pointer (some ⟨f, 0, none⟩)) ∧ W.cell? ⟨w.heap.size + 1, 0, none⟩ = some (.int .i64 root) ∧ W.cell? ⟨w.heap.size + 1 + 1, 0, none⟩ = some (.func (.func g) #[] caps) ∧
      W.cell? ⟨w.heap.size + 1 + 1 + 1, 0, none⟩ = some (.int .i64 0) ∧ W.frozen? ⟨w.heap.size + 1 + 1 + 1, 0, none⟩ = false ∧ W.heap[L]? = some (rec .ready none) ∧ W.heap[D]? = some (.deferred (some [])) ∧ hi ≤ W.heap.size)
    (fun W => ∃ er, er ≠ 0 ∧ X hi er W ∧ W.cell? ⟨w.heap.size + 1 + 1 + 1, 0, none⟩ = some (.int .i64 er) ∧ W.heap[L]? = some (rec .done (some (.exit 0))) ∧ W.heap[D]? = some (.deferred (some [])))
    ?_ ?_ W1 a0 n0 ⟨M0, hI0, c0, c1, c2, c3, z3, hl1, hd1, hhi1⟩ ⟨c4, c5, z4, z5⟩ hle) ?_
  · rintro a n W W' ⟨M, h1, h2, h3, h4, h5, h6, h7, h8, h9⟩ hs
    exact ⟨M, HCL.out _ _ _ _ _ _ h1 (hs.mono (fun b hb h => by omega)), hs.cell h2 (by simp <;> omega), hs.cell h3 (by simp <;> omega), hs.cell h4 (by simp <;> omega), hs.cell h5 (by simp <;> omega), hs.unfrozen h5 h6 (by simp <;> omega), hs.block h7 (by omega), hs.block h8 (by omega), by have := hs.size; omega⟩
  · rintro a n W hn hle2 hB ⟨M, h1, h2, h3, h4, h5, h6, h7, h8, h9⟩
    have hA : Same (fun _ => False) W (W.alloc (.cells #[.int .i64 ((a : Int) / 64), .int .i64 ((a : Int) % 64), .int .i64 (pk a n)] 140)) := same_alloc _
    have hp2 : (W.alloc (.cells #[.int .i64 ((a : Int) / 64), .int .i64 ((a : Int) % 64), .int .i64 (pk a n)] 140)).cell? ⟨W.heap.size, 2, none⟩ = some (.int .i64 (pk a n)) := by simp
    obtain ⟨VA, hVA⟩ : ∃ VA, VA = W.alloc (.cells #[.int .i64 ((a : Int) / 64), .int .i64 ((a : Int) % 64), .int .i64 (pk a n)] 140) := ⟨_, rfl⟩
    have hszA : VA.heap.size = W.heap.size + 1 := by rw [hVA]; simp
    rw [← hVA] at hA hp2 ⊢
    have hl7 := hA.block h7 (fun h => h)
    have HVA := Lib.hid hszA
    have hWA : W.heap.size < VA.heap.size := by omega
    have HI := Lib.hid h1
    clear hVA hszA h1
    refine hrule VA _ _ hl7 rfl ?_
    gi_wp2
    have hB2 : Same (fun _ => False) VA (VA.alloc (.cells #[.int .i64 ((a : Int) / 64), .int .i64 ((a : Int) % 64), .int .i64 (pk a n)] 140)) := same_alloc _
    refine ⟨hB2.block hl7 (fun h => h), fun W2 hs2 _ hl2 => ?_⟩
    have hLW := (Array.getElem?_eq_some_iff.1 h7).1
    have hsA : Same (· = L) W W2 := ((hA.trans hB2).mono (fun _ _ h => h.elim)).trans hs2
    have hin : Same (fun b => w.heap.size ≤ b ∧ b < hi) W W2 := hsA.mono (fun b _ h => by omega)
    have hI2 := HCL.out _ _ _ _ _ _ HI.out hin
    have hM2 := HMEM.out _ _ _ _ _ hI2
    have d0 := hsA.cell h2 (by simp <;> omega)
    have d1 := hsA.cell h3 (by simp <;> omega)
    have d2 := hsA.cell h4 (by simp <;> omega)
    have d3 := hsA.cell h5 (by simp <;> omega)
    have d3' := hsA.unfrozen h5 h6 (by simp <;> omega)
    have dD := hsA.block h8 (by omega)
    have dB := hB.same hsA (by omega) (by omega)
    have hbl := hB.lt
    have dp := ((hB2.mono (T := (· = L)) (fun _ _ h => h.elim)).trans hs2).cell hp2 (by simp <;> omega)
    have q0 : W2.cell? ⟨VA.heap.size, 0, none⟩ = some (.int .i64 ((a : Int) / 64)) := hs2.cell (by simp) (by simp <;> omega)
    have q1 : W2.cell? ⟨VA.heap.size, 1, none⟩ = some (.int .i64 ((a : Int) % 64)) := hs2.cell (by simp) (by simp <;> omega)
    have q2 : W2.cell? ⟨VA.heap.size, 2, none⟩ = some (.int .i64 (pk a n)) := hs2.cell (by simp) (by simp <;> omega)
    have hz2 := hsA.size
    have hzVA : VA.heap.size < W2.heap.size := World.block_lt_of_cell? _ _ q0
    have HI2 := Lib.hid hI2
    have HDB := Lib.hid dB
    obtain ⟨⟨wf, wg, we⟩, hW⟩ : ∃ x, x = M.walk root ((a : Int) / 64) := ⟨_, rfl⟩
    have HW := Lib.hid hW
    have hwk := walk_any hM2 root ((a : Int) / 64) (by unfold In64; omega)
    rw [← hW] at hwk
    have HWK := Lib.hid hwk
    clear hI2 hM2 dB hW hwk h2 h3 h4 h5 h6 h8 hp2 hB hl7 hA hB2 hs2 h7
    gi_wp2_with fail
    refine CallsIn.mono (CallsIn.inRound L (callsIn_wide.2 HWK.out)) ?_
    rintro e W4 ⟨rfl, hs4⟩
    have e0 := hs4.cell d0 (fun h => h)
    have e1 := hs4.cell d1 (fun h => h)
    have e2 := hs4.cell d2 (fun h => h)
    have e3 := hs4.cell d3 (fun h => h)
    have e3' := hs4.unfrozen d3 d3' (fun h => h)
    have eD := hs4.block dD (fun h => h)
    have eL := hs4.block hl2 (fun h => h)
    have ep := hs4.cell dp (fun h => h)
    have s0 := hs4.cell q0 (fun h => h)
    have s1 := hs4.cell q1 (fun h => h)
    have s2 := hs4.cell q2 (fun h => h)
    have HDB4 := Lib.hid (HDB.out.same hs4 (fun h => h) (fun h => h))
    have HI4 := Lib.hid (HCL.out _ _ _ _ _ _ HI2.out (hs4.mono (fun _ _ h => h.elim)))
    have hin4 := hin.trans (hs4.mono (fun _ _ h => h.elim))
    have hz4 := hs4.size
    clear d0 d1 d2 d3 d3' dD dp q0 q1 q2 hs4 HDB HI2 HWK hin hsA hl2
    by_cases hwe : we = 0
    · subst hwe
      have hdo := HDO.out hi a n M W W4 hn hle2 HI.out h9 hin4 (by rw [← HW.out])
      rw [← HW.out] at hdo
      have HDOX := Lib.hid hdo
      have heg := HEG.out
      clear hdo
      gi_wp2_with fail
      refine CallsIn.mono (CallsIn.inRound L (callsIn_wide.2 HDOX.out)) ?_
      rintro e W6 ⟨hcase, hs6⟩
      have f0 := hs6.cell e0 (by simp <;> omega)
      have f1 := hs6.cell e1 (by simp <;> omega)
      have f2 := hs6.cell e2 (by simp <;> omega)
      have f3 := hs6.cell e3 (by simp <;> omega)
      have f3' := hs6.unfrozen e3 e3' (by simp <;> omega)
      have fD := hs6.block eD (by omega)
      have fL := hs6.block eL (by omega)
      have fp := hs6.cell ep (by simp <;> omega)
      have fB := HDB4.out.same hs6 (by omega) (by omega)
      have HFB := Lib.hid fB
      have hz6 := hs6.size
      have hb3 := World.block_lt_of_cell? _ _ f3
      clear e0 e1 e2 e3 e3' eD eL ep s0 s1 s2 hs6 fB HDOX heg
      rcases hcase with ⟨rfl, M', hI6⟩ | ⟨er, her, rfl, hX6⟩
      · have HI6 := Lib.hid hI6
        clear hI6
        obtain ⟨W7, hW7⟩ : ∃ W7, W7 = W6.setCell ⟨w.heap.size + 1 + 1 + 1, 0, none⟩ (.int .i64 0) := ⟨_, rfl⟩
        have hs7 : Same (· = w.heap.size + 1 + 1 + 1) W6 W7 := by rw [hW7]; exact (Same.refl _ _).setCell _ (.inr rfl)
        have g0 := hs7.cell f0 (by simp <;> omega)
        have g1 := hs7.cell f1 (by simp <;> omega)
        have g2 := hs7.cell f2 (by simp <;> omega)
        have g3 : W7.cell? ⟨w.heap.size + 1 + 1 + 1, 0, none⟩ = some (.int .i64 0) := by rw [hW7]; exact World.cell?_setCell_same _ _ _ f3
        have g3' : W7.frozen? ⟨w.heap.size + 1 + 1 + 1, 0, none⟩ = false := by rw [hW7]; simpa using f3'
        have gD := hs7.block fD (by omega)
        have gL := hs7.block fL (by omega)
        have gp := hs7.cell fp (by simp <;> omega)
        have HGB := Lib.hid (HFB.out.same hs7 (by omega) (by omega))
        have HI7 := Lib.hid (HCL.out _ _ _ _ _ _ HI6.out (hs7.mono (fun b _ h => by omega)))
        have hz7 := hs7.size
        have HW7 := Lib.hid hW7
        clear hW7 hs7
        gi_wp2
        rw [← HW7.out]
        refine ⟨gL, fun W8 hs8 _ hl8 => .inl ⟨rfl, HGB.out.same hs8 (by omega) (by omega), ⟨⟨M', HCL.out _ _ _ _ _ _ HI7.out (hs8.mono (fun b _ h => by omega))⟩, hs8.cell g0 (by simp <;> omega), hs8.cell g1 (by simp <;> omega), hs8.cell g2 (by simp <;> omega), hs8.cell g3 (by simp <;> omega), hs8.unfrozen g3 g3' (by simp <;> omega), hl8, hs8.block gD (by omega), by have := hs8.size; omega⟩, hs8.cell gp (by simp <;> omega)⟩⟩
      · have HX6 := Lib.hid hX6
        have hbe : (er != 0) = true := by simpa using her
        have HER := Lib.hid her
        clear hX6 her
        obtain ⟨W7, hW7⟩ : ∃ W7, W7 = W6.setCell ⟨w.heap.size + 1 + 1 + 1, 0, none⟩ (.int .i64 er) := ⟨_, rfl⟩
        have hs7 : Same (· = w.heap.size + 1 + 1 + 1) W6 W7 := by rw [hW7]; exact (Same.refl _ _).setCell _ (.inr rfl)
        have g3 : W7.cell? ⟨w.heap.size + 1 + 1 + 1, 0, none⟩ = some (.int .i64 er) := by rw [hW7]; exact World.cell?_setCell_same _ _ _ f3
        have gD := hs7.block fD (by omega)
        have gL := hs7.block fL (by omega)
        have HX7 := Lib.hid (HX.out _ _ _ _ HX6.out (hs7.mono (fun b _ h => by omega)))
        have HW7 := Lib.hid hW7
        clear hW7 hs7
        gi_wp2
        rw [← HW7.out]
        exact ⟨gL, fun W8 hs8 _ hl8 => .inr ⟨rfl, er, HER.out, HX.out _ _ _ _ HX7.out (hs8.mono (fun b _ h => by omega)), hs8.cell g3 (by simp <;> omega), hl8, hs8.block gD (by omega)⟩⟩
    · have HWE := Lib.hid hwe
      have hbe : (we != 0) = true := by simpa using hwe
      have hX4 := HFAIL.out hi a n M W4 hn HI4.out (by rw [← HW.out]; exact hwe)
      have HX4 := Lib.hid hX4
      clear hX4 hwe
      have hb3 := World.block_lt_of_cell? _ _ e3
      obtain ⟨W7, hW7⟩ : ∃ W7, W7 = W4.setCell ⟨w.heap.size + 1 + 1 + 1, 0, none⟩ (.int .i64 30) := ⟨_, rfl⟩
      have hs7 : Same (· = w.heap.size + 1 + 1 + 1) W4 W7 := by rw [hW7]; exact (Same.refl _ _).setCell _ (.inr rfl)
      have g3 : W7.cell? ⟨w.heap.size + 1 + 1 + 1, 0, none⟩ = some (.int .i64 30) := by rw [hW7]; exact World.cell?_setCell_same _ _ _ e3
      have gD := hs7.block eD (by omega)
      have gL := hs7.block eL (by omega)
      have HX7 := Lib.hid (HX.out _ _ _ _ HX4.out (hs7.mono (fun b _ h => by omega)))
      have HW7 := Lib.hid hW7
      clear hW7 hs7
      gi_wp2
      rw [← HW7.out]
      exact ⟨gL, fun W8 hs8 _ hl8 => .inr ⟨rfl, 30, by decide, HX.out _ _ _ _ HX7.out (hs8.mono (fun b _ h => by omega)), hs8.cell g3 (by simp <;> omega), hl8, hs8.block gD (by omega)⟩⟩
  · rintro e W ⟨⟨v, rfl⟩, ⟨aE, M, h1, h2, h3, h4, h5, h6, h7, h8, h9⟩ | ⟨er, her, hX, h5, h7, h8⟩⟩
    · refine ⟨⟨_, rfl⟩, .inl ⟨h7, fun W2 hs2 _ => ?_⟩⟩
      have k5 := hs2.cell h5 (by simp <;> omega)
      have kD := hs2.block h8 (by omega)
      have HI2 := Lib.hid (HCL.out _ _ _ _ _ _ h1 (hs2.mono (fun b _ h => by omega)))
      clear h1
      gi_wp2
      refine leaves_mark kD fun W5 hs6 _ => ⟨results_tmp rfl _ _ _, .inl ⟨rfl, hi, aE, M, HCL.out _ _ _ _ _ _ HI2.out (hs6.mono (fun b _ h => by omega))⟩⟩
    · refine ⟨⟨_, rfl⟩, .inr ⟨_, h7, fun W2 hs2 _ => ?_⟩⟩
      have k5 := hs2.cell h5 (by simp <;> omega)
      have kD := hs2.block h8 (by omega)
      have HX2 := Lib.hid (HX.out _ _ _ _ hX (hs2.mono (fun b _ h => by omega)))
      clear hX
      gi_wp2
      refine leaves_mark kD fun W5 hs6 _ => ⟨results_tmp rfl _ _ _, .inr ⟨er, hi, her, rfl, HX.out _ _ _ _ HX2.out (hs6.mono (fun b _ h => by omega))⟩⟩
end Go.Proofs.Ytlbgnmcjdmdjpaa
