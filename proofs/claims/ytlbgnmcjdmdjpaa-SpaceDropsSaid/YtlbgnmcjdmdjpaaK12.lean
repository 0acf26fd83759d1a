/- The walk of SpaceShares. Conditions: the arguments' form. -/
import Derived.Test.YtlbgnmcjdmdjpaaK11
set_option linter.unusedSimpArgs false
set_option linter.unusedVariables false
namespace Go.Proofs.Ytlbgnmcjdmdjpaa
open Go.RowKit Go.Shelf
attribute [local go_sem] Oper.semAt_some
/-- A space in its box. -/
structure BxW (X W : World) (b : Nat) (s : Spc) (va : Option Addr) (vc : Nat) : Prop where
  five : Five W b (.int .i64 s.root) (.int .i64 s.text) (.int .i64 s.data) (.int .i64 s.heap) (.slice va s.atts.length vc)
  atts : AttO W (.slice va s.atts.length vc) s.atts
  sh : W.shape? b = some (75, 5)
  le : X.heap.size ≤ b
theorem BxW.lt {X W : World} {b : Nat} {s : Spc} {va : Option Addr} {vc : Nat} (h : BxW X W b s va vc) : b < W.heap.size := World.block_lt_of_cell? _ _ h.five.c0
theorem BxW.mem {X W W' : World} {b f fb : Nat} {M : Mm} {s : Spc} {va : Option Addr} {vc : Nat} (h : BxW X W b s va vc) (hM : MemAt W f fb M) (hfb : fb < X.heap.size) (hs : Same (· = fb) W W') : BxW X W' b s va vc :=
  ⟨h.five.same hs (by have := h.le; omega), h.atts.same hs (fun x hx m e => by subst hx; obtain ⟨n, hn⟩ := hM.sh; rw [hn] at e; cases e), (hs.shp _ h.lt).trans h.sh, h.le⟩
theorem BxW.other {X W W' : World} {b b2 : Nat} {s : Spc} {va : Option Addr} {vc : Nat} (h : BxW X W b s va vc) (hs : Same (· = b2) W W') (hne : b ≠ b2) (hsh2 : W.shape? b2 = some (75, 5)) : BxW X W' b s va vc :=
  ⟨h.five.same hs hne, h.atts.same hs (fun x hx m e => by subst hx; rw [hsh2] at e; cases e), (hs.shp _ h.lt).trans h.sh, h.le⟩
theorem BxW.same0 {X W W' : World} {b : Nat} {s : Spc} {va : Option Addr} {vc : Nat} (h : BxW X W b s va vc) (hs : Same (fun _ => False) W W') : BxW X W' b s va vc :=
  ⟨h.five.same hs (fun h => h), h.atts.same0 hs, (hs.shp _ h.lt).trans h.sh, h.le⟩
theorem BxW.new {X W : World} (s : Spc) (hs : s.atts = []) (hX : X.heap.size ≤ W.heap.size) : BxW X (W.alloc (.cells #[.int .i64 s.root, .int .i64 s.text, .int .i64 s.data, .int .i64 s.heap, .slice none 0 0] 75)) W.heap.size s none 0 := by
  refine ⟨?_, ?_, by rw [shape_alloc, if_pos rfl]; rfl, hX⟩
  · rw [hs]; exact five_new _ _ _ _ _ _
  · rw [hs]; exact World.ownsRow_nil _ _ _ _
/-- What stands: the memory, and how far the world is another one. -/
structure ShW (X W : World) (f fb : Nat) (M : Mm) : Prop where
  mem : MemAt W f fb M
  same : Same (fun x => x = fb ∨ X.heap.size ≤ x) X W
  lt : fb < X.heap.size ∧ f < X.heap.size
theorem ShW.call {X W W' : World} {f fb : Nat} {M M' : Mm} (h : ShW X W f fb M) (hM : MemAt W' f fb M') (hs : Same (· = fb) W W') : ShW X W' f fb M' := ⟨hM, h.same.trans (hs.mono (fun _ _ h => .inl h)), h.lt⟩
theorem ShW.same0 {X W W' : World} {f fb : Nat} {M : Mm} (h : ShW X W f fb M) (hs : Same (fun _ => False) W W') : ShW X W' f fb M := ⟨h.mem.same0 hs, h.same.trans (hs.mono (fun _ _ h => h.elim)), h.lt⟩
theorem ShW.box {X W W' : World} {f fb b : Nat} {M : Mm} (h : ShW X W f fb M) (hs : Same (· = b) W W') (hb : X.heap.size ≤ b) : ShW X W' f fb M := ⟨h.mem.same hs (by have := h.lt; omega) (by have := h.lt; omega), h.same.trans (hs.mono (fun x _ h => .inr (by omega))), h.lt⟩
set_option maxHeartbeats 3200000 in
set_option maxRecDepth 8192 in
theorem shares_walk (w : World) (s : ByteArray) (page : Int) (wr : Bool) (hs : s.size ≤ 9223372036854775807) (hip : In64 page) :
    Calls Try.prog 18 #[.string s, .int .i64 page, .bool wr] w fun e w' => e = .returned (.bool true) ∧ Same (fun _ => False) w w' := by
  by_cases hn : page < 128 ∨ 239 < page
  · rcases hn with hn | hn
    · have hd : decide (page < 128) = true := by simpa using hn
      go_enter Try.func18, Try.ntmps18
      go_wp2_with fail
      refine (shown4 _).mono ?_
      rintro e w1 ⟨rfl, hs1⟩
      go_wp2
      go_ret
      exact ⟨rfl, hs1⟩
    · have hd : decide (page < 128) = false := by simp; omega
      have hd2 : decide (239 < page) = true := by simpa using hn
      go_enter Try.func18, Try.ntmps18
      go_wp2_with fail
      refine (shown4 _).mono ?_
      rintro e w1 ⟨rfl, hs1⟩
      go_wp2
      go_ret
      exact ⟨rfl, hs1⟩
  obtain ⟨page, rfl⟩ := Int.eq_ofNat_of_zero_le (show 0 ≤ page by omega)
  have hd : decide ((page : Int) < 128) = false := by simp; omega
  have hd2 : decide ((239 : Int) < page) = false := by simp; omega
  have HN := Lib.hid (show 128 ≤ page ∧ page < 240 by omega)
  have HS := Lib.hid hs
  clear hn hip hs
  go_enter Try.func18, Try.ntmps18
  go_wp2_with fail
  refine (shown4 _).mono ?_
  rintro e w1 ⟨rfl, hs1⟩
  go_wp2_with fail
  refine (new_any _ 60 (by omega) (by omega)).mono ?_
  rintro e w2 ⟨f, fb, rfl, hf, hfb, hM, hs2⟩
  have hs02 : Same (fun _ => False) w w2 := hs1.trans hs2
  have hsz1 := hs1.size
  have hwf : w.heap.size ≤ fb := by omega
  have hM : MemAt w2 f fb (Mm.taken 60 0) := hM
  have C := Lib.hid (alloc_any hM)
  have HH := Lib.hid (And.intro hs02 (And.intro hwf hM.lt.symm))
  clear hs1 hs2 hsz1 hf hfb hs02 hwf hM
  go_wp2_with fail
  refine C.out.mono ?_
  rintro e w3 (⟨hno, -⟩ | ⟨j, hj, hR, hlo, rfl, hM3, hs3⟩)
  · have := hno 0 (by rw [taken_n]; omega)
    rw [taken_R, if_neg (by omega)] at this
    omega
  have hj0 : j = 0 := by
    rcases Nat.eq_zero_or_pos j with c | c
    · exact c
    · have := hlo 0 c
      rw [taken_R, if_neg (by omega)] at this
      omega
  subst hj0
  have hM3 : MemAt w3 f fb (Mm.taken 60 1) := hM3
  have H3 := Lib.hid (show ShW w2 w3 f fb (Mm.taken 60 1) from ⟨hM3, hs3.mono (fun _ _ h => .inl h), HH.out.2.2⟩)
  clear hM3 hs3 hlo hR hj C
  go_wp2_with fail
  refine (image_any _ tS ByteArray.empty).mono ?_
  rintro e w4 ⟨rfl, hs4⟩
  have h4 := H3.out.same0 hs4
  obtain ⟨M1, ra, M2, rb, Ta, Tb, hX1, hX2, hA⟩ := shares_start
  have hx := exec_img h4.mem tS ByteArray.empty
  rw [show cut200 tS = tS from rfl, show cut200 ByteArray.empty = ByteArray.empty from rfl, hX1] at hx
  simp only at hx
  rw [show ((spn 0 tS.size : Nat) : Int) = 1 by decide +kernel, show ((spn 0 ByteArray.empty.size : Nat) : Int) = 0 by decide +kernel] at hx
  have hx := Lib.hid hx
  have H4 := Lib.hid h4
  have HX := Lib.hid hX2
  have HA := Lib.hid hA
  clear h4 hs4 hX1 hX2 hA H3
  go_wp2_with fail
  refine hx.out.mono ?_
  rintro e w5 ⟨hM5, hs5, ⟨-, rfl⟩ | ⟨h, -⟩⟩
  rotate_left
  · exact absurd rfl h
  obtain ⟨sa, hsa⟩ : ∃ s : Spc, s = ⟨ra, 1, 0, 0, []⟩ := ⟨_, rfl⟩
  obtain ⟨W6, hW6⟩ : ∃ W, W = w5.alloc (.cells #[.int .i64 ra, .int .i64 1, .int .i64 0, .int .i64 0, .slice none 0 0] 75) := ⟨_, rfl⟩
  have h5 := H4.out.call hM5 hs5
  have h6 : ShW w2 W6 f fb M1 := by rw [hW6]; exact h5.same0 (same_alloc _)
  have x6 : BxW w2 W6 w5.heap.size sa none 0 := by rw [hW6, hsa]; exact BxW.new ⟨ra, 1, 0, 0, []⟩ rfl h5.same.size
  have H6 := Lib.hid (And.intro h6 x6)
  have HSA := Lib.hid (show sa.atts = [] ∧ sa.root = ra by rw [hsa]; exact ⟨rfl, rfl⟩)
  clear hM5 hs5 hx h5 h6 x6 H4 hsa
  go_wp2_with fail
  rw [← hW6]
  refine (image_any _ tS dS).mono ?_
  rintro e w7 ⟨rfl, hs7⟩
  obtain ⟨b0, hb0⟩ : ∃ b, b = w5.heap.size := ⟨_, rfl⟩
  rw [← hb0] at H6 ⊢
  clear hW6 hb0
  obtain ⟨h6, x6⟩ := H6.out
  have h7 := h6.same0 hs7
  have x7 := x6.same0 hs7
  have hx := exec_img h7.mem tS dS
  rw [show cut200 tS = tS from rfl, show cut200 dS = dS from rfl, HX.out] at hx
  simp only at hx
  rw [show ((spn 0 tS.size : Nat) : Int) = 1 by decide +kernel, show ((spn 0 dS.size : Nat) : Int) = 1 by decide +kernel] at hx
  have hx := Lib.hid hx
  have H7 := Lib.hid (And.intro h7 x7)
  clear h6 x6 h7 x7 hs7 H6
  go_wp2_with fail
  refine hx.out.mono ?_
  rintro e w8 ⟨hM8, hs8, ⟨-, rfl⟩ | ⟨h, -⟩⟩
  rotate_left
  · exact absurd rfl h
  obtain ⟨h7, x7⟩ := H7.out
  have h8 := h7.call hM8 hs8
  have x8 := x7.mem h7.mem h7.lt.1 hs8
  obtain ⟨sb, hsb⟩ : ∃ s : Spc, s = ⟨rb, 1, 1, 0, []⟩ := ⟨_, rfl⟩
  obtain ⟨W9, hW9⟩ : ∃ W, W = w8.alloc (.cells #[.int .i64 rb, .int .i64 1, .int .i64 1, .int .i64 0, .slice none 0 0] 75) := ⟨_, rfl⟩
  have h9 : ShW w2 W9 f fb M2 := by rw [hW9]; exact h8.same0 (same_alloc _)
  have x9 : BxW w2 W9 b0 sa none 0 := by rw [hW9]; exact x8.same0 (same_alloc _)
  have y9 : BxW w2 W9 w8.heap.size sb none 0 := by rw [hW9, hsb]; exact BxW.new ⟨rb, 1, 1, 0, []⟩ rfl h8.same.size
  have hne : b0 ≠ w8.heap.size := by have := x8.lt; omega
  have H9 := Lib.hid (And.intro h9 (And.intro x9 (And.intro y9 hne)))
  have HSB := Lib.hid (show sb.atts = [] ∧ sb.root = rb by rw [hsb]; exact ⟨rfl, rfl⟩)
  have k0 := x9.five.c0
  have k1 := x9.five.c1
  have k2 := x9.five.c2
  have k3 := x9.five.c3
  have k4 := x9.five.c4
  rw [hW9] at k0 k1 k2 k3 k4
  clear hM8 hs8 hx h7 x7 h8 x8 h9 x9 y9 hne H7 hsb
  go_wp2_with fail
  rw [← hW9]
  have hsz : w8.heap.size + 1 = W9.heap.size := by rw [hW9]; simp
  rw [hsz]
  obtain ⟨b1, hb1⟩ : ∃ b, b = w8.heap.size := ⟨_, rfl⟩
  rw [← hb1] at H9 ⊢
  clear k0 k1 k2 k3 k4 hW9 hsz hb1
  obtain ⟨hp1, hp2⟩ := HN.out
  obtain ⟨M3, M4, M5, rc, Ta3, Tb3, Tc, q3, q4, q5, u3, u4, hZ⟩ := shares_mid HA.out sa sb HSA.out.2 HSB.out.2 page hp1 hp2 wr
  obtain ⟨h9, x9, y9, hne⟩ := H9.out
  obtain ⟨W10, hW10⟩ : ∃ W, W = W9.alloc (.cells #[.int .i64 0] 3) := ⟨_, rfl⟩
  have s10 : Same (fun _ => False) W9 W10 := by rw [hW10]; exact same_alloc _
  have hi : IntsO W10 (some ⟨W9.heap.size, 0, none⟩) [0] := by
    refine .inr ⟨_, rfl, by rw [hW10]; simp, ⟨1, by rw [hW10, shape_alloc, if_pos rfl]; rfl⟩, fun i x hx => ?_⟩
    rw [hW10, World.cell?_alloc_at _ _ _ _ rfl]
    rcases i with _ | i
    · cases hx; rfl
    · simp at hx
  have h10 := h9.same0 s10
  have x10 := x9.same0 s10
  have y10 := y9.same0 s10
  have C := attach_any h10.mem sa none 0 x10.atts (by rw [HSA.out.1]; simp) page (by constructor <;> omega) (some ⟨W9.heap.size, 0, none⟩) 1 [0] hi (by simp) true
  rw [q3] at C
  rw [← hW10]
  refine C.mono ?_
  rintro e w11 ⟨hM11, hs11, ⟨-, v', l1, rfl, hv', hp', -⟩ | ⟨h0, -⟩⟩
  rotate_left
  · exact absurd rfl h0
  obtain ⟨va, vn, vc, rfl⟩ := atto_slice hv'
  have hun := (AttO.cells hv').1
  subst hun
  have h11 := h10.call hM11 hs11
  have x11 := x10.mem h10.mem h10.lt.1 hs11
  have y11 := y10.mem h10.mem h10.lt.1 hs11
  obtain ⟨sa2, hsa2⟩ : ∃ s : Spc, s = { sa with atts := l1 } := ⟨_, rfl⟩
  obtain ⟨W12, hW12⟩ : ∃ W, W = ((((w11.setCell ⟨b0, 0, none⟩ (.int .i64 sa.root)).setCell ⟨b0, 1, none⟩ (.int .i64 sa.text)).setCell ⟨b0, 2, none⟩ (.int .i64 sa.data)).setCell ⟨b0, 3, none⟩ (.int .i64 sa.heap)).setCell ⟨b0, 4, none⟩ (.slice va l1.length vc) := ⟨_, rfl⟩
  obtain ⟨F12, s12⟩ := five_set hW12 x11.five
  have h12 := h11.box s12 x11.le
  have x12 : BxW w2 W12 b0 sa2 va vc := by
    rw [hsa2]
    exact ⟨F12, hv'.same s12 (fun x hx m e => by subst hx; rw [x11.sh] at e; cases e), (s12.shp _ x11.lt).trans x11.sh, x11.le⟩
  have y12 := y11.other s12 (fun e => hne e.symm) x11.sh
  have g0 := x11.five.c0
  have g1 := x11.five.c1
  have g2 := x11.five.c2
  have g3 := x11.five.c3
  have g4 := x11.five.c4
  have z0 := x11.five.fz 0
  have z1 := x11.five.fz 1
  have z2 := x11.five.fz 2
  have z3 := x11.five.fz 3
  have z4 := x11.five.fz 4
  have k0 := y11.five.c0
  have k1 := y11.five.c1
  have k2 := y11.five.c2
  have k3 := y11.five.c3
  have k4 := y11.five.c4
  have hne1 : ¬ b1 = b0 := fun e => hne e.symm
  have hne2 : ¬ b0 = b1 := hne
  rw [show ({ sa with atts := l1 } : Spc).val (.slice va l1.length vc) = .agg #[.int .i64 sa.root, .int .i64 sa.text, .int .i64 sa.data, .int .i64 sa.heap, .slice va l1.length vc] from rfl]
  have H12 := Lib.hid (And.intro h12 (And.intro x12 (And.intro y12 hne)))
  have HQ := Lib.hid (And.intro q4 (And.intro q5 (And.intro u3 (And.intro u4 hZ))))
  have HSA2 := Lib.hid (show sa2.root = ra ∧ sa2.atts.length ≤ 500 by
    have := hp'.length_eq
    rw [HSA.out.1] at this
    simp at this
    rw [hsa2]
    exact ⟨HSA.out.2, by show l1.length ≤ 500; omega⟩)
  have HL1 := Lib.hid (show sa2.atts = l1 by rw [hsa2])
  clear hp' q3 q4 q5 u3 u4 hZ h9 x9 y9 hne hW10 s10 hi h10 x10 y10 C hM11 hs11 hv' h11 x11 y11 hsa2 F12 s12 h12 x12 y12 H9 hp1 hp2
  go_wp2_with fail
  rw [← hW12]
  have hsz : w11.heap.size = W12.heap.size := by rw [hW12]; simp
  rw [hsz]
  clear k0 k1 k2 k3 k4 g0 g1 g2 g3 g4 z0 z1 z2 z3 z4 hW12 hsz hne1 hne2
  obtain ⟨h12, x12, y12, hne⟩ := H12.out
  obtain ⟨q4, q5, u3, u4, hZ⟩ := HQ.out
  obtain ⟨W13, hW13⟩ : ∃ W, W = W12.alloc (.cells #[.int .i64 0] 3) := ⟨_, rfl⟩
  have s13 : Same (fun _ => False) W12 W13 := by rw [hW13]; exact same_alloc _
  have hi : IntsO W13 (some ⟨W12.heap.size, 0, none⟩) [0] := by
    refine .inr ⟨_, rfl, by rw [hW13]; simp, ⟨1, by rw [hW13, shape_alloc, if_pos rfl]; rfl⟩, fun i x hx => ?_⟩
    rw [hW13, World.cell?_alloc_at _ _ _ _ rfl]
    rcases i with _ | i
    · cases hx; rfl
    · simp at hx
  have h13 := h12.same0 s13
  have x13 := x12.same0 s13
  have y13 := y12.same0 s13
  have C := attach_any h13.mem sb none 0 y13.atts (by rw [HSB.out.1]; simp) 128 (by constructor <;> omega) (some ⟨W12.heap.size, 0, none⟩) 1 [0] hi (by simp) wr
  rw [q4] at C
  rw [← hW13]
  refine C.mono ?_
  rintro e w14 ⟨hM14, hs14, ⟨-, v', l2, rfl, hv', hp', -⟩ | ⟨h0, -⟩⟩
  rotate_left
  · exact absurd rfl h0
  obtain ⟨va2, vn2, vc2, rfl⟩ := atto_slice hv'
  have hun := (AttO.cells hv').1
  subst hun
  have h14 := h13.call hM14 hs14
  have x14 := x13.mem h13.mem h13.lt.1 hs14
  have y14 := y13.mem h13.mem h13.lt.1 hs14
  obtain ⟨sb2, hsb2⟩ : ∃ s : Spc, s = { sb with atts := l2 } := ⟨_, rfl⟩
  obtain ⟨W15, hW15⟩ : ∃ W, W = ((((w14.setCell ⟨b1, 0, none⟩ (.int .i64 sb.root)).setCell ⟨b1, 1, none⟩ (.int .i64 sb.text)).setCell ⟨b1, 2, none⟩ (.int .i64 sb.data)).setCell ⟨b1, 3, none⟩ (.int .i64 sb.heap)).setCell ⟨b1, 4, none⟩ (.slice va2 l2.length vc2) := ⟨_, rfl⟩
  obtain ⟨F15, s15⟩ := five_set hW15 y14.five
  have h15 := h14.box s15 y14.le
  have y15 : BxW w2 W15 b1 sb2 va2 vc2 := by
    rw [hsb2]
    exact ⟨F15, hv'.same s15 (fun x hx m e => by subst hx; rw [y14.sh] at e; cases e), (s15.shp _ y14.lt).trans y14.sh, y14.le⟩
  have x15 := x14.other s15 hne y14.sh
  have g0 := y14.five.c0
  have g1 := y14.five.c1
  have g2 := y14.five.c2
  have g3 := y14.five.c3
  have g4 := y14.five.c4
  have z0 := y14.five.fz 0
  have z1 := y14.five.fz 1
  have z2 := y14.five.fz 2
  have z3 := y14.five.fz 3
  have z4 := y14.five.fz 4
  have k0 := x14.five.c0
  have k1 := x14.five.c1
  have k2 := x14.five.c2
  have k3 := x14.five.c3
  have k4 := x14.five.c4
  have hne1 : ¬ b1 = b0 := fun e => hne e.symm
  have hne2 : ¬ b0 = b1 := hne
  rw [show ({ sb with atts := l2 } : Spc).val (.slice va2 l2.length vc2) = .agg #[.int .i64 sb.root, .int .i64 sb.text, .int .i64 sb.data, .int .i64 sb.heap, .slice va2 l2.length vc2] from rfl]
  have H15 := Lib.hid (And.intro h15 (And.intro x15 (And.intro y15 hne)))
  have HQ2 := Lib.hid (And.intro q5 (And.intro u4 hZ))
  have HSB2 := Lib.hid (show sb2.root = rb by rw [hsb2]; exact HSB.out.2)
  clear hp' q4 q5 u3 u4 hZ h12 x12 y12 hne hW13 s13 hi h13 x13 y13 C hM14 hs14 hv' h14 x14 y14 hsb2 F15 s15 h15 x15 y15 H12 HQ
  go_wp2_with fail
  rw [← hW15]
  clear k0 k1 k2 k3 k4 g0 g1 g2 g3 g4 z0 z1 z2 z3 z4 hW15 hne1 hne2
  obtain ⟨h15, x15, y15, hne⟩ := H15.out
  obtain ⟨q5, u4, hZ⟩ := HQ2.out
  have C := fork_any h15.mem sa2 (.slice va sa2.atts.length vc) x15.atts HSA2.out.2 (by rw [HSA2.out.1]; exact u4)
  have hraa := HSA2.out.1
  rw [hraa, q5] at C
  simp only at C
  refine C.mono ?_
  rintro e w17 ⟨hM17, hs17, ⟨-, v2, rfl, hv2⟩ | ⟨h0, -⟩⟩
  rotate_left
  · exact absurd rfl h0
  obtain ⟨vb, vm, vd, rfl⟩ := atto_slice hv2
  have h17 := h15.call hM17 hs17
  have x17 := x15.mem h15.mem h15.lt.1 hs17
  have y17 := y15.mem h15.mem h15.lt.1 hs17
  rw [show ({ root := (rc : Int), text := sa2.text, data := sa2.data, heap := sa2.heap, atts := sa2.atts } : Spc).val (.slice vb vm vd) = .agg #[.int .i64 rc, .int .i64 sa2.text, .int .i64 sa2.data, .int .i64 sa2.heap, .slice vb vm vd] from rfl]
  obtain ⟨W18, hW18⟩ : ∃ W, W = w17.alloc (.cells #[.int .i64 rc, .int .i64 sa2.text, .int .i64 sa2.data, .int .i64 sa2.heap, .slice vb vm vd] 75) := ⟨_, rfl⟩
  have s18 : Same (fun _ => False) w17 W18 := by rw [hW18]; exact same_alloc _
  have h18 := h17.same0 s18
  have x18 := x17.same0 s18
  have y18 := y17.same0 s18
  obtain ⟨s', hs'⟩ : ∃ x, x = s.extract 0 (min (s.size : Int) 60).toNat := ⟨_, rfl⟩
  have hl1 : (min (min (s.size : Int) 60).toNat s.size : Nat) = s'.size := by rw [hs', ByteArray.size_extract]; omega
  have hl2 : s'.size ≤ 60 := by rw [hs', ByteArray.size_extract]; omega
  have hC : (rc, Tc) ∈ [(rc, Tc), (ra, Ta3), (rb, Tb3)] := by simp
  obtain ⟨cuC, hUC⟩ := (hZ.good.tre _ hC).tree
  have hwi : IntKind.i64.wrap (64 * (page : Int)) = 64 * (page : Int) := by rw [IntWalk.i64_in _ (by have := HN.out; omega)]
  have CO := Lib.hid (out_c h18.mem hUC hZ.dc (64 * (page : Int)) s' (by have := HN.out; constructor <;> omega) (by omega))
  have H18 := Lib.hid (And.intro h18 (And.intro x18 (And.intro y18 hne)))
  have HZ := Lib.hid hZ
  have HS' := Lib.hid (And.intro hs' (And.intro hl1 hl2))
  clear q5 u4 hZ h15 x15 y15 C hM17 hs17 hv2 h17 x17 y17 s18 h18 x18 y18 hs' hl1 hl2 hC hUC hraa H15 hne
  go_wp2_with fail
  rw [← hW18, ← HS'.out.1]
  obtain ⟨b2, hb2⟩ : ∃ b, b = w17.heap.size := ⟨_, rfl⟩
  rw [← hb2]
  clear hW18 hb2
  refine CO.out.mono ?_
  rintro e w19 ⟨p, N, rfl, r1, hM19, r2, hs19⟩
  obtain ⟨h18, x18, y18, hne⟩ := H18.out
  obtain ⟨hs', hl1, hl2⟩ := HS'.out
  obtain ⟨hp1, hp2⟩ := HN.out
  have r2' : (p ≠ 0 ∧ N = M5) ∨ (p = 0 ∧ OutR M5 N rc Tc (64 * page) (64 * page + s'.size) s') := by
    rcases r2 with h | ⟨h, _, ho⟩
    · exact .inl h
    · rw [show (64 * (page : Int)).toNat = 64 * page by omega] at ho
      exact .inr ⟨h, ho⟩
  obtain ⟨rfl, hZ, hB⟩ := HZ.out.out hp2 hl2 r1 r2'
  have h19 := h18.call hM19 hs19
  have x19 := x18.mem h18.mem h18.lt.1 hs19
  have y19 := y18.mem h18.mem h18.lt.1 hs19
  have k0 := x19.five.c0
  rw [HSA2.out.1] at k0
  have C := Lib.hid (in_c h19.mem ra (64 * (page : Int)) s'.size (by constructor <;> omega) (by constructor <;> omega) hZ.da.ok)
  have H19 := Lib.hid (And.intro h19 (And.intro x19 y19))
  have HZ2 := Lib.hid (And.intro hZ hB)
  have hl1' := Lib.hid (show (min (min (s.size : Int) 60).toNat s.size : Nat) = s'.size from hl1)
  clear h18 x18 y18 hne hs' hl1 hl2 hp1 hp2 r1 r2 r2' hZ hB hM19 hs19 h19 x19 y19 H18 HZ CO
  go_wp2_with fail
  refine C.out.mono ?_
  rintro e w20 ⟨q, xs, rfl, r3, hs20⟩
  obtain ⟨h19, x19, y19⟩ := H19.out
  obtain ⟨hZ, hB⟩ := HZ2.out
  have hl2 := HS'.out.2.2
  have h20 := h19.same0 hs20
  have x20 := x19.same0 hs20
  have y20 := y19.same0 hs20
  have j0 := y20.five.c0
  rw [HSB2.out] at j0
  have C2 := Lib.hid (in_c h20.mem rb 8192 s'.size (by constructor <;> omega) (by constructor <;> omega) hZ.db.ok)
  have H20 := Lib.hid (And.intro h20 (And.intro x20 y20))
  have R3 := Lib.hid r3
  clear h19 x19 y19 hZ hB hl2 h20 x20 y20 r3 hs20 k0 C H19
  go_wp2_with fail
  refine C2.out.mono ?_
  rintro e w21 ⟨r, ys, rfl, r4, hs21⟩
  obtain ⟨h20, x20, y20⟩ := H20.out
  obtain ⟨hZ, hB⟩ := HZ2.out
  have h21 := h20.same0 hs21
  have y21 := y20.same0 hs21
  have k0 := y21.five.c0
  rw [HSB2.out] at k0
  have hBm : (rb, Tb3) ∈ [(rc, Tc), (ra, Ta3), (rb, Tb3)] := by simp
  obtain ⟨cuB, hUB⟩ := (hZ.good.tre _ hBm).tree
  have C3 := Lib.hid (out_c h21.mem hUB hZ.db 8192 ⟨#[119]⟩ (by constructor <;> omega) (by decide))
  have H21 := Lib.hid h21
  have R4 := Lib.hid r4
  clear h20 x20 y20 hZ hB h21 y21 hBm hUB r4 hs21 j0 C2 H20
  go_wp2_with fail
  refine C3.out.mono ?_
  rintro e w22 ⟨v, N2, rfl, r5, hM22, r6, hs22⟩
  obtain ⟨hZ, hB⟩ := HZ2.out
  have h22 := H21.out.call hM22 hs22
  have hnR : N2.n = N.n ∧ N2.R = N.R := by
    rcases r6 with ⟨_, rfl⟩ | ⟨_, _, ho⟩
    · exact ⟨rfl, rfl⟩
    · exact ⟨ho.tab.n, ho.tab.R⟩
  have hrf := hZ.refs HN.out.2 hnR.1 hnR.2
  obtain ⟨rfl, rfl, rfl, rfl, hvw⟩ := hZ.law HN.out.2 HS'.out.2.2 hB R3.out R4.out r5
  have hv : (v == 0) = wr := by
    rw [Bool.eq_iff_iff, beq_iff_eq]; exact hvw
  have CR := refs_any h22.mem 0
  rw [hrf] at CR
  have CR := Lib.hid CR
  have hfin : ∀ W, Same (fun _ => False) w22 W → Same (fun _ => False) w W := fun W hW => by
    have h1 := HH.out.1
    have h2 := h1.size
    have h3 := HH.out.2.1
    have ht : Same (fun x => x = fb ∨ w2.heap.size ≤ x) w W := (h1.mono (fun _ _ h => h.elim)).trans (h22.same.trans (hW.mono (fun _ _ h => h.elim)))
    refine (Same.refl (fun _ => False) w).trans' ht (fun x hx hlt => ?_)
    rcases hx with hx | hx <;> omega
  have HX2 := Lib.hid hfin
  clear hZ hB h22 hnR hrf hvw r5 hM22 r6 hs22 hfin R3 R4 H21 C3 k0
  go_wp2_with fail
  refine CR.out.mono ?_
  rintro e w23 ⟨rfl, hs23⟩
  have HF := Lib.hid (HX2.out _ hs23)
  clear hs23 HX2 CR
  go_wp2
  go_ret
  exact ⟨rfl, HF.out⟩
end Go.Proofs.Ytlbgnmcjdmdjpaa
