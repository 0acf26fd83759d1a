/- The walk of SpaceForks. Conditions: the arguments' form. -/
import Derived.Test.YtlbgnmcjdmdjpaaK7
set_option linter.unusedSimpArgs false
set_option linter.unusedVariables false
namespace Go.Proofs.Ytlbgnmcjdmdjpaa
open Go.RowKit Go.Shelf
attribute [local go_sem] Oper.semAt_some
theorem five_set {w W : World} {b : Nat} {u0 u1 u2 u3 u4 v0 v1 v2 v3 v4 : Value} (hW : W = ((((w.setCell ⟨b, 0, none⟩ v0).setCell ⟨b, 1, none⟩ v1).setCell ⟨b, 2, none⟩ v2).setCell ⟨b, 3, none⟩ v3).setCell ⟨b, 4, none⟩ v4)
    (h : Five w b u0 u1 u2 u3 u4) : Five W b v0 v1 v2 v3 v4 ∧ Same (· = b) w W := by
  obtain ⟨p0, p1, p2, p3, p4⟩ := put5 (v0 := v0) (v1 := v1) (v2 := v2) (v3 := v3) (v4 := v4) h.c0 h.c1 h.c2 h.c3 h.c4
  have hs2 : Same (· = b) w W := by
    rw [hW]; exact (((((Same.refl (· = b) w).setCell _ (.inr rfl)).setCell _ (.inr rfl)).setCell _ (.inr rfl)).setCell _ (.inr rfl)).setCell _ (.inr rfl)
  rw [← hW] at p0 p1 p2 p3 p4
  exact ⟨⟨p0, p1, p2, p3, p4, fun o => by rw [hW]; simp only [World.frozen?_setCell]; exact h.fz o⟩, hs2⟩
theorem out_frames {M N : Mm} {L : Sps} {E : Nat → Nat} (h : M.Good L E) (h1 : ∀ x, M.R x ≤ 1) {a : Nat × (Nat → Option Nat)} (ha : a ∈ L) {addr : Nat} {s : ByteArray} {er : Int} (hc : ChkR M a.1 addr s.size true er)
    (h3 : (er ≠ 0 ∧ N = M) ∨ (er = 0 ∧ OutR M N a.1 a.2 addr (addr + s.size) s)) {b : Nat × (Nat → Option Nat)} (hb : b ∈ L) : FramesOk N b.1 := by
  rcases h3 with ⟨_, rfl⟩ | ⟨rfl, ho⟩
  · exact (h.data h1 hb).ok
  · obtain ⟨-, z0, z1, z2, z3, z4⟩ := chk_zero hc
    obtain ⟨g, _⟩ := h.outR h1 ha ho (fun i i1 i2 => (z4 i (by omega) (by omega)).1)
    exact (g.data (fun x => by rw [ho.tab.R]; exact h1 x) hb).ok
theorem atto_slice {w : World} {v : Value} {l : List Att} (h : AttO w v l) : ∃ a n c, v = .slice a n c := by
  obtain ⟨_, ⟨rfl, _⟩ | ⟨g, cap, cur, rfl, _⟩⟩ := h
  · exact ⟨_, _, _, rfl⟩
  · exact ⟨_, _, _, rfl⟩
set_option maxHeartbeats 3200000 in
set_option maxRecDepth 8192 in
theorem forks_walk (w : World) (data s : ByteArray) (n : Int) (child : Bool) (h2 : data.size ≤ 9223372036854775807) (h3 : s.size ≤ 9223372036854775807) (hin : In64 n) :
    Calls Try.prog 15 #[.string data, .string s, .int .i64 n, .bool child] w fun e w' => e = .returned (.bool true) ∧ Same (fun _ => False) w w' := by
  by_cases hn : n < 1 ∨ 9 < n
  · rcases hn with hn | hn
    · have hd : decide (n < 1) = true := by simpa using hn
      go_enter Try.func15, Try.ntmps15
      go_wp2_with fail
      refine (shown4 _).mono ?_
      rintro e w1 ⟨rfl, hs1⟩
      go_wp2
      go_ret
      exact ⟨rfl, hs1⟩
    · have hd : decide (n < 1) = false := by simp; omega
      have hd2 : decide (9 < n) = true := by simpa using hn
      go_enter Try.func15, Try.ntmps15
      go_wp2_with fail
      refine (shown4 _).mono ?_
      rintro e w1 ⟨rfl, hs1⟩
      go_wp2
      go_ret
      exact ⟨rfl, hs1⟩
  obtain ⟨n, rfl⟩ := Int.eq_ofNat_of_zero_le (show 0 ≤ n by omega)
  have hd : decide ((n : Int) < 1) = false := by simp; omega
  have hd2 : decide ((9 : Int) < n) = false := by simp; omega
  have hn1 : 1 ≤ n := by omega
  have hn9 : n ≤ 9 := by omega
  have HN := Lib.hid (And.intro hn1 hn9)
  clear hn hin
  go_enter Try.func15, Try.ntmps15
  go_wp2_with fail
  refine (shown4 _).mono ?_
  rintro e w1 ⟨rfl, hs1⟩
  go_wp2_with fail
  refine (new_any _ 90 (by omega) (by omega)).mono ?_
  rintro e w2 ⟨f, fb, rfl, hf, hfb, hM, hs2⟩
  have hs02 : Same (fun _ => False) w w2 := hs1.trans hs2
  have hsz1 := hs1.size
  have hwf : w.heap.size ≤ fb := by omega
  have HH := Lib.hid (And.intro hs02 (And.intro hwf hM))
  clear hs1 hs2 hsz1 hf hfb hs02 hwf hM hn1 hn9
  go_wp2_with fail
  refine (image_any _ ByteArray.empty data).mono ?_
  rintro e w3 ⟨rfl, hs3⟩
  obtain ⟨hs02, hwf, hM⟩ := HH.out
  have hM3 := hM.same0 hs3
  have hs03 := hs02.trans hs3
  have hx := exec_img hM3 ByteArray.empty data
  rw [show cut200 ByteArray.empty = ByteArray.empty from rfl] at hx
  obtain ⟨M1, T1, hX, hI, he4⟩ := img90 (cut200 data) (by rw [cut200_size]; omega)
  rw [hX, show spn 0 ByteArray.empty.size = 0 from rfl] at hx
  simp only at hx
  obtain ⟨e0, he0⟩ : ∃ x, spn 0 (cut200 data).size = x := ⟨_, rfl⟩
  rw [he0] at hx hI he4
  have HI := Lib.hid (And.intro hs03 (And.intro hI (And.intro he4 hwf)))
  clear hs02 hwf hM hM3 hs03 hs3 HH hX hI he4 he0
  go_wp2_with fail
  refine hx.mono ?_
  rintro e w4 ⟨hM4, hs4, ⟨-, rfl⟩ | ⟨h, -⟩⟩
  rotate_left
  · exact absurd rfl h
  obtain ⟨hn1, hn9⟩ := HN.out
  obtain ⟨hs03, hI, he4, hwf⟩ := HI.out
  obtain ⟨M2, T2, hg, hG2, hle2, hchk, hfork⟩ := forks_ready hI he4 hn1 hn9 []
  obtain ⟨W5, hW5⟩ : ∃ W, W = w4.alloc (.cells #[.int .i64 0, .int .i64 0, .int .i64 (e0 : Int), .int .i64 0, .slice none 0 0] 75) := ⟨_, rfl⟩
  have hM5 : MemAt W5 f fb M1 := by rw [hW5]; exact hM4.same0 (same_alloc _)
  have hs5 : Same (· = fb) w3 W5 := by rw [hW5]; exact hs4.trans ((same_alloc _).mono (fun _ _ h => h.elim))
  have F5 : Five W5 w4.heap.size (.int .i64 0) (.int .i64 0) (.int .i64 (e0 : Int)) (.int .i64 0) (.slice none 0 0) := by rw [hW5]; exact five_new _ _ _ _ _ _
  have hbx : w4.heap.size < W5.heap.size := by rw [hW5]; simp
  have hsh5 : W5.shape? w4.heap.size = some (75, 5) := by rw [hW5, shape_alloc, if_pos rfl]; rfl
  have hb4 : w3.heap.size ≤ w4.heap.size := hs4.size
  have hfl5 := hM4.lt
  have k0 := F5.c0
  have k1 := F5.c1
  have k2 := F5.c2
  have k3 := F5.c3
  have k4 := F5.c4
  have C := grow_any hM5 ⟨0, 0, e0, 0, []⟩ (.slice none 0 0) (World.ownsRow_nil _ _ _ _) ⟨by simp, by simp, by simp, by simp [Spc.end_]; omega, by simp⟩ n (by constructor <;> omega)
  rw [hg] at C
  simp only [Spc.val, Spc.end_, Int.zero_add, Int.add_zero] at C
  have C := Lib.hid C
  have HJ := Lib.hid (And.intro hs5 (And.intro F5 (And.intro hfl5 (And.intro hb4 (And.intro hbx hsh5)))))
  have HG := Lib.hid (And.intro hG2 (And.intro hle2 (And.intro hchk hfork)))
  clear hn1 hn9 hs03 hI he4 hwf hg hG2 hle2 hchk hfork hM5 hs5 F5 hbx hb4 hfl5 hM4 hs4 hx hsh5
  go_wp2_with fail
  rw [← hW5]
  refine C.out.mono ?_
  rintro e w6 ⟨hM6, hs6, ⟨-, v', rfl, hv'⟩ | ⟨h, -⟩⟩
  rotate_left
  · exact absurd rfl h
  obtain ⟨va, vn, vc, rfl⟩ := atto_slice hv'
  obtain ⟨hs5, F5, hfl5, hb4, hbx, hsh5⟩ := HJ.out
  have hsh6 : w6.shape? w4.heap.size = some (75, 5) := (hs6.shp _ hbx).trans hsh5
  have F6 := F5.same hs6 (by omega)
  have hbx6 : w4.heap.size < w6.heap.size := by have := hs6.size; omega
  obtain ⟨W7, hW7⟩ : ∃ W, W = ((((w6.setCell ⟨w4.heap.size, 0, none⟩ (.int .i64 0)).setCell ⟨w4.heap.size, 1, none⟩ (.int .i64 0)).setCell ⟨w4.heap.size, 2, none⟩ (.int .i64 e0)).setCell ⟨w4.heap.size, 3, none⟩ (.int .i64 n)).setCell ⟨w4.heap.size, 4, none⟩ (.slice va vn vc) := ⟨_, rfl⟩
  obtain ⟨F7, hs67⟩ := five_set hW7 F6
  have hM7 : MemAt W7 f fb M2 := hM6.same hs67 (by omega) (by omega)
  have hv7 : AttO W7 (.slice va vn vc) [] := hv'.same hs67 (fun x hx m e => by subst hx; rw [hsh6] at e; cases e)
  have hfs7 := hM7.sh
  obtain ⟨hG2, hle2, hchk, hfork⟩ := HG.out
  obtain ⟨hs03, hI, he4, hwf⟩ := HI.out
  obtain ⟨cu2, hU2⟩ := hG2.tree.tree
  have hD2 : M2.Data 0 T2 := hG2.data hle2 (a := (0, T2)) List.mem_cons_self
  have j0 := F7.c0
  have CO := out_c hM7 hU2 hD2 (64 * (e0 : Int)) oldS (by constructor <;> omega) (by decide)
  rw [show ((0 : Nat) : Int) = 0 from rfl] at CO
  have CO := Lib.hid CO
  have hE1 : 0 ≤ (e0 : Int) := by omega
  have hE2 : (e0 : Int) ≤ 4 := by omega
  have hs7 : Same (fun b => b = fb ∨ b = w4.heap.size) w3 W7 := ((hs5.trans hs6).mono (fun _ _ h => .inl h)).trans (hs67.mono (fun _ _ h => .inr h))
  have HK := Lib.hid (And.intro F7 (And.intro hv7 (And.intro hs7 (And.intro hfs7 (And.intro hb4 hfl5)))))
  have g0 := F6.c0
  have g1 := F6.c1
  have g2 := F6.c2
  have g3 := F6.c3
  have g4 := F6.c4
  have z0 := F6.fz 0
  have z1 := F6.fz 1
  have z2 := F6.fz 2
  have z3 := F6.fz 3
  have z4 := F6.fz 4
  clear F7 hv' hv7 hfs7 hsh5 hsh6 hs7 hs67 hb4 hs5 hs6 hM6 hM7 F5 F6 hbx hbx6 hG2 hle2 hchk hfork hs03 hI he4 hwf hU2 hD2 C HJ k0 k1 k2 k3 k4 hfl5
  go_wp2_with fail
  rw [← hW7]
  refine CO.out.mono ?_
  rintro e w8 ⟨er, M3, rfl, r1, hM8, r2, hs8⟩
  obtain ⟨F7, hv7, hs7, hfs7, hb4, hfl5⟩ := HK.out
  obtain ⟨hG2, hle2, hchk, hfork⟩ := HG.out
  obtain ⟨hs03, hI, he4, hwf⟩ := HI.out
  have her : er = 0 := hchk er r1
  obtain ⟨-, -, ho⟩ := r2.resolve_left (fun h => h.1 her)
  rw [show (64 * (e0 : Int)).toNat = 64 * e0 by omega] at ho
  obtain ⟨M4, k, Tk, hF, hR⟩ := hfork M3 ho
  have hu3 : M3.isUsed 0 = true := by
    have := hG2.tree
    exact Mm.isUsed_nat (k := 0) (by rw [ho.tab.n]; exact this.rn) (by rw [ho.tab.R, this.rR]; decide)
  have F8 := F7.same hs8 (by omega)
  have hv8 : AttO w8 (.slice va vn vc) [] := hv7.same hs8 (fun x hx m e => by subst hx; obtain ⟨y, hy⟩ := hfs7; rw [hy] at e; cases e)
  have CF := fork_any hM8 ⟨0, 0, e0, n, []⟩ (.slice va vn vc) hv8 (by simp) hu3
  rw [hF] at CF
  simp only [Spc.val] at CF
  have CF := Lib.hid CF
  have k0 := F8.c0
  have k1 := F8.c1
  have k2 := F8.c2
  have k3 := F8.c3
  have k4 := F8.c4
  have HL := Lib.hid (And.intro F8 (And.intro (hs7.trans (hs8.mono (fun _ _ h => .inl h))) (And.intro hb4 (And.intro hfl5 hR))))
  clear r1 hM8 r2 hs8 F7 hv7 hs7 hfs7 hb4 hfl5 hG2 hle2 hchk hfork hs03 hI he4 hwf her ho hF hu3 F8 hv8 CO HK HG hW5 hW7 g0 g1 g2 g3 g4 z0 z1 z2 z3 z4 j0 hR
  go_wp2_with fail
  refine CF.out.mono ?_
  rintro e w9 ⟨hM9, hs9, ⟨-, v'', rfl, hv''⟩ | ⟨h, -⟩⟩
  rotate_left
  · exact absurd rfl h
  obtain ⟨vb, vm, vd, rfl⟩ := atto_slice hv''
  obtain ⟨F8, hs8, hb4, hfl5, hR⟩ := HL.out
  obtain ⟨W10, hW10⟩ : ∃ W, W = w9.alloc (.cells #[.int .i64 (k : Int), .int .i64 0, .int .i64 (e0 : Int), .int .i64 (n : Int), .slice vb vm vd] 75) := ⟨_, rfl⟩
  have F10 := (F8.same hs9 (by omega)).same (same_alloc (W := w9) (.cells #[.int .i64 (k : Int), .int .i64 0, .int .i64 (e0 : Int), .int .i64 (n : Int), .slice vb vm vd] 75)) (by simp)
  rw [← hW10] at F10
  have hM10 : MemAt W10 f fb M4 := by rw [hW10]; exact hM9.same0 (same_alloc _)
  have hs10 : Same (fun b => b = fb ∨ b = w4.heap.size) w3 W10 := by rw [hW10]; exact (hs8.trans (hs9.mono (fun _ _ h => .inl h))).trans ((same_alloc _).mono (fun _ _ h => h.elim))
  have j0 := F10.c0
  rw [hW10] at j0
  have HM := Lib.hid (And.intro hM10 (And.intro hs10 (And.intro hb4 (And.intro hfl5 hR))))
  have HW := Lib.hid hW10
  clear F8 hs8 hb4 hfl5 hR hM10 hs10 F10 hM9 hs9 hv'' CF HL k0 k1 k2 k3 k4 hW10
  have hE64 : 0 ≤ 64 * (e0 : Int) := by omega
  have hl1 : (min (min (s.size : Int) 60).toNat s.size : Nat) = (s.extract 0 (min (s.size : Int) 60).toNat).size := by rw [ByteArray.size_extract]; omega
  have hl2 : (s.extract 0 (min (s.size : Int) 60).toNat).size ≤ 60 := by rw [ByteArray.size_extract]; omega
  have HS := Lib.hid (And.intro hl1 hl2)
  clear hl1 hl2
  have hwi : IntKind.i64.wrap (64 * (e0 : Int) + 64) = 64 * (e0 : Int) + 64 := IntWalk.i64_in _ (by omega)
  cases child
  · go_wp2_with fail
    rw [← HW.out]
    obtain ⟨hM10, hs10, hb4, hfl5, hR⟩ := HM.out
    obtain ⟨hs03, hI, he4, hwf⟩ := HI.out
    have hA : (0, T2) ∈ [(k, Tk), (0, T2)] := by simp
    have hB : (k, Tk) ∈ [(k, Tk), (0, T2)] := by simp
    obtain ⟨cuA, hUA⟩ := (hR.good.tre _ hA).tree
    have hDA : M4.Data 0 T2 := hR.good.data hR.le1 hA
    have hfB : FramesOk M4 (k : Nat) := (hR.good.data hR.le1 hB).ok
    have C1 := in_c hM10 (k : Nat) 0 (64 * (e0 : Int) + 64) (by constructor <;> omega) (by constructor <;> omega) hfB
    have C1 := Lib.hid C1
    have HU := Lib.hid (And.intro hUA hDA)
    have HAB := Lib.hid (And.intro hA hB)
    clear hM10 hs10 hb4 hfl5 hR hs03 hI he4 hwf hUA hDA hfB hA hB
    refine C1.out.mono ?_
    rintro e w11 ⟨i, was, rfl, r1, hs11⟩
    obtain ⟨hM10, hs10, hb4, hfl5, hR⟩ := HM.out
    obtain ⟨hUA, hDA⟩ := HU.out
    have hM11 := hM10.same0 hs11
    obtain ⟨s', hs'⟩ : ∃ x, x = s.extract 0 (min (s.size : Int) 60).toNat := ⟨_, rfl⟩
    have hsz := HS.out.2
    rw [← hs'] at hsz
    have C2 := out_c hM11 hUA hDA (64 * (e0 : Int)) s' (by constructor <;> omega) (by omega)
    rw [hs'] at C2
    have C2 := Lib.hid C2
    have R1 := Lib.hid r1
    have HS' := Lib.hid hs'
    have HN1 := Lib.hid (hs10.trans (hs11.mono (fun _ _ h => h.elim)))
    clear hM10 hs10 hb4 hfl5 hR hUA hDA hM11 hs' hsz r1 hs11 C1
    go_wp2_with fail
    refine C2.out.mono ?_
    rintro e w12 ⟨j, M5, rfl, r2, hM12, r3, hs12⟩
    obtain ⟨-, -, hb4, hfl5, hR⟩ := HM.out
    obtain ⟨hA, hB⟩ := HAB.out
    obtain ⟨hs03, hI, he4, hwf⟩ := HI.out
    rw [← HS'.out] at r2 r3
    have r3' : (j ≠ 0 ∧ M5 = M4) ∨ (j = 0 ∧ OutR M4 M5 0 T2 (64 * e0) (64 * e0 + s'.size) s') := by
      rcases r3 with h | ⟨h, _, ho⟩
      · exact .inl h
      · rw [show (64 * (e0 : Int)).toNat = 64 * e0 by omega] at ho
        exact .inr ⟨h, ho⟩
    have hfo : ∀ b ∈ [(k, Tk), (0, T2)], FramesOk M5 b.1 := fun b hb => out_frames hR.good hR.le1 hA (addr := 64 * e0) (by rw [show ((64 * e0 : Nat) : Int) = 64 * (e0 : Int) by omega]; exact r2) r3' hb
    have C3 := Lib.hid (in_c hM12 (k : Nat) 0 (64 * (e0 : Int) + 64) (by constructor <;> omega) (by constructor <;> omega) (hfo _ hB))
    have R2 := Lib.hid (And.intro r2 r3')
    have HF := Lib.hid (And.intro (hfo _ hA) (HN1.out.trans (hs12.mono (fun _ _ h => .inl h))))
    have HM12 := Lib.hid hM12
    clear hb4 hfl5 hR hA hB hs03 hI he4 hwf r2 r3 r3' hfo hM12 hs12 C2
    go_wp2_with fail
    refine C3.out.mono ?_
    rintro e w13 ⟨kk, is_, rfl, r4, hs13⟩
    have hM13 := HM12.out.same0 hs13
    have hsz := HS.out.2
    rw [← HS'.out] at hsz
    obtain ⟨hfA, hs312⟩ := HF.out
    have C4 := in_c hM13 (0 : Nat) (64 * (e0 : Int)) (s'.size : Int) (by constructor <;> omega) (by constructor <;> omega) hfA
    have C4 := Lib.hid C4
    have R4 := Lib.hid r4
    have HZ := Lib.hid (hs312.trans (hs13.mono (fun _ _ h => h.elim)))
    clear hM13 hsz hfA hs312 r4 hs13 C3
    go_wp2_with fail
    rw [HS.out.1, ← HS'.out]
    refine C4.out.mono ?_
    rintro e w14 ⟨o, got, rfl, r5, hs14⟩
    obtain ⟨-, -, hb4, hfl5, hR⟩ := HM.out
    obtain ⟨hA, hB⟩ := HAB.out
    obtain ⟨hs03, hI, he4, hwf⟩ := HI.out
    obtain ⟨r2, r3⟩ := R2.out
    have hsz := HS.out.2
    rw [← HS'.out] at hsz
    obtain ⟨rfl, rfl, rfl, rfl, rfl, hgot, hws, hex⟩ := forks_law hR.good hR.le1 hA hB (by have := hR.ne; simp only; omega) he4 (fun q hq => (by obtain ⟨x, a1, a2⟩ := hR.pa q hq; exact ⟨3, x, a1, by decide, fun _ => rfl⟩)) (fun q hq => (by obtain ⟨x, a1, a2⟩ := hR.pb q hq; exact ⟨3, x, a1, by decide, a2⟩)) hsz R1.out r2 r3 R4.out r5
    have hend := HZ.out.trans (hs14.mono (fun _ _ h => h.elim))
    have hfin : Same (fun _ => False) w w14 := hs03.trans' hend (fun b hb hlt => by have := hs03.size; omega)
    have f1 : decide (64 * (e0 : Int) + 3 ≤ (is_.size : Int)) = true := by simp; omega
    have f2 : is_.extract (64 * (e0 : Int)).toNat (64 * (e0 : Int) + 3).toNat = ⟨#[111, 108, 100]⟩ := by
      rw [show (64 * (e0 : Int)).toNat = 64 * e0 by omega, show (64 * (e0 : Int) + 3).toNat = 64 * e0 + 3 by omega]
      exact hex
    have f3 : 64 * (e0 : Int) + 3 ≤ (is_.size : Int) := by omega
    subst hgot
    have HX := Lib.hid hfin
    clear hb4 hfl5 hR hA hB hs03 hI he4 hwf r2 r3 hsz hws hex hend hfin R1 R2 R4 r5 hs14 HZ HF HM12 HS HS' HN1 HU HAB C4 HM HI
    go_wp2
    all_goals
      go_ret
      exact ⟨rfl, HX.out⟩
  · go_wp2_with fail
    rw [← HW.out]
    obtain ⟨hM10, hs10, hb4, hfl5, hR⟩ := HM.out
    obtain ⟨hs03, hI, he4, hwf⟩ := HI.out
    have hA : (k, Tk) ∈ [(k, Tk), (0, T2)] := by simp
    have hB : (0, T2) ∈ [(k, Tk), (0, T2)] := by simp
    obtain ⟨cuA, hUA⟩ := (hR.good.tre _ hA).tree
    have hDA : M4.Data k Tk := hR.good.data hR.le1 hA
    have hfB : FramesOk M4 (0 : Nat) := (hR.good.data hR.le1 hB).ok
    have C1 := in_c hM10 (0 : Nat) 0 (64 * (e0 : Int) + 64) (by constructor <;> omega) (by constructor <;> omega) hfB
    have C1 := Lib.hid C1
    have HU := Lib.hid (And.intro hUA hDA)
    have HAB := Lib.hid (And.intro hA hB)
    clear hM10 hs10 hb4 hfl5 hR hs03 hI he4 hwf hUA hDA hfB hA hB
    refine C1.out.mono ?_
    rintro e w11 ⟨i, was, rfl, r1, hs11⟩
    obtain ⟨hM10, hs10, hb4, hfl5, hR⟩ := HM.out
    obtain ⟨hUA, hDA⟩ := HU.out
    have hM11 := hM10.same0 hs11
    obtain ⟨s', hs'⟩ : ∃ x, x = s.extract 0 (min (s.size : Int) 60).toNat := ⟨_, rfl⟩
    have hsz := HS.out.2
    rw [← hs'] at hsz
    have C2 := out_c hM11 hUA hDA (64 * (e0 : Int)) s' (by constructor <;> omega) (by omega)
    rw [hs'] at C2
    have C2 := Lib.hid C2
    have R1 := Lib.hid r1
    have HS' := Lib.hid hs'
    have HN1 := Lib.hid (hs10.trans (hs11.mono (fun _ _ h => h.elim)))
    clear hM10 hs10 hb4 hfl5 hR hUA hDA hM11 hs' hsz r1 hs11 C1
    go_wp2_with fail
    refine C2.out.mono ?_
    rintro e w12 ⟨j, M5, rfl, r2, hM12, r3, hs12⟩
    obtain ⟨-, -, hb4, hfl5, hR⟩ := HM.out
    obtain ⟨hA, hB⟩ := HAB.out
    obtain ⟨hs03, hI, he4, hwf⟩ := HI.out
    rw [← HS'.out] at r2 r3
    have r3' : (j ≠ 0 ∧ M5 = M4) ∨ (j = 0 ∧ OutR M4 M5 k Tk (64 * e0) (64 * e0 + s'.size) s') := by
      rcases r3 with h | ⟨h, _, ho⟩
      · exact .inl h
      · rw [show (64 * (e0 : Int)).toNat = 64 * e0 by omega] at ho
        exact .inr ⟨h, ho⟩
    have hfo : ∀ b ∈ [(k, Tk), (0, T2)], FramesOk M5 b.1 := fun b hb => out_frames hR.good hR.le1 hA (addr := 64 * e0) (by rw [show ((64 * e0 : Nat) : Int) = 64 * (e0 : Int) by omega]; exact r2) r3' hb
    have C3 := Lib.hid (in_c hM12 (0 : Nat) 0 (64 * (e0 : Int) + 64) (by constructor <;> omega) (by constructor <;> omega) (hfo _ hB))
    have R2 := Lib.hid (And.intro r2 r3')
    have HF := Lib.hid (And.intro (hfo _ hA) (HN1.out.trans (hs12.mono (fun _ _ h => .inl h))))
    have HM12 := Lib.hid hM12
    clear hb4 hfl5 hR hA hB hs03 hI he4 hwf r2 r3 r3' hfo hM12 hs12 C2
    go_wp2_with fail
    refine C3.out.mono ?_
    rintro e w13 ⟨kk, is_, rfl, r4, hs13⟩
    have hM13 := HM12.out.same0 hs13
    have hsz := HS.out.2
    rw [← HS'.out] at hsz
    obtain ⟨hfA, hs312⟩ := HF.out
    have C4 := in_c hM13 (k : Nat) (64 * (e0 : Int)) (s'.size : Int) (by constructor <;> omega) (by constructor <;> omega) hfA
    have C4 := Lib.hid C4
    have R4 := Lib.hid r4
    have HZ := Lib.hid (hs312.trans (hs13.mono (fun _ _ h => h.elim)))
    clear hM13 hsz hfA hs312 r4 hs13 C3
    go_wp2_with fail
    rw [HS.out.1, ← HS'.out]
    refine C4.out.mono ?_
    rintro e w14 ⟨o, got, rfl, r5, hs14⟩
    obtain ⟨-, -, hb4, hfl5, hR⟩ := HM.out
    obtain ⟨hA, hB⟩ := HAB.out
    obtain ⟨hs03, hI, he4, hwf⟩ := HI.out
    obtain ⟨r2, r3⟩ := R2.out
    have hsz := HS.out.2
    rw [← HS'.out] at hsz
    obtain ⟨rfl, rfl, rfl, rfl, rfl, hgot, hws, hex⟩ := forks_law hR.good hR.le1 hA hB (by have := hR.ne; simp only; omega) he4 (fun q hq => (by obtain ⟨x, a1, a2⟩ := hR.pb q hq; exact ⟨3, x, a1, by decide, fun _ => rfl⟩)) (fun q hq => (by obtain ⟨x, a1, a2⟩ := hR.pa q hq; exact ⟨3, x, a1, by decide, a2⟩)) hsz R1.out r2 r3 R4.out r5
    have hend := HZ.out.trans (hs14.mono (fun _ _ h => h.elim))
    have hfin : Same (fun _ => False) w w14 := hs03.trans' hend (fun b hb hlt => by have := hs03.size; omega)
    have f1 : decide (64 * (e0 : Int) + 3 ≤ (is_.size : Int)) = true := by simp; omega
    have f2 : is_.extract (64 * (e0 : Int)).toNat (64 * (e0 : Int) + 3).toNat = ⟨#[111, 108, 100]⟩ := by
      rw [show (64 * (e0 : Int)).toNat = 64 * e0 by omega, show (64 * (e0 : Int) + 3).toNat = 64 * e0 + 3 by omega]
      exact hex
    have f3 : 64 * (e0 : Int) + 3 ≤ (is_.size : Int) := by omega
    subst hgot
    have HX := Lib.hid hfin
    clear hb4 hfl5 hR hA hB hs03 hI he4 hwf r2 r3 hsz hws hex hend hfin R1 R2 R4 r5 hs14 HZ HF HM12 HS HS' HN1 HU HAB C4 HM HI
    go_wp2
    all_goals
      go_ret
      exact ⟨rfl, HX.out⟩
end Go.Proofs.Ytlbgnmcjdmdjpaa
