/- An image made of a text and data (f47). Conditions: none.
The shown of layer 4 (f45). Conditions: none.
Plain laws of a space's pages. Conditions: none.
SpaceImages: what an image's pages hold is read, and its walk. Conditions: the arguments' form. -/
import Derived.Test.YtlbgnmcjdmdjpaaK4
import Derived.Deep.RegionHeld3
import Derived.Test.YtlbgnmcjdmdjpaaK3
set_option linter.unusedSimpArgs false
set_option linter.unusedVariables false
/- Package space: Exec of an image. -/
namespace Go.Proofs.Ytlbgnmcjdmdjpaa
open Go.RowKit Go.Shelf
attribute [local go_sem] Oper.semAt_some

/-- All orders of a region, told by a block and a world. -/
theorem wp_via {P : Program} {c : Code} {Q : Exit → Act → World → Prop} {a : Act} {w : World} (S : Nat → World → Prop) (F : Nat → World → Act) (G : Nat → World → World) (h1 : c.wp P (fun e a' w' => e = .normal ∧ ∃ b W, S b W ∧ a' = F b W ∧ w' = G b W) a w) (h2 : ∀ b W, S b W → Q .normal (F b W) (G b W)) : c.wp P Q a w :=
  wp_mono h1 (by
    rintro e a' w' ⟨rfl, b, W, h, rfl, rfl⟩
    exact h2 b W h)

theorem five_new (w : World) (v0 v1 v2 v3 v4 : Value) : Five (w.alloc (.cells #[v0, v1, v2, v3, v4] 75)) w.heap.size v0 v1 v2 v3 v4 := ⟨by simp [go_sem], by simp [go_sem], by simp [go_sem], by simp [go_sem], by simp [go_sem], fun o => by simp [go_sem]⟩
theorem five_newd (w : World) (v0 v1 v2 v3 v4 : Value) : Five (w.drew.alloc (.cells #[v0, v1, v2, v3, v4] 75)) w.heap.size v0 v1 v2 v3 v4 := five_new w.drew v0 v1 v2 v3 v4

theorem five_newx (w : World) (v0 v1 v2 v3 v4 : Value) : Five (w.alloc (.cells #[v0, v1, v2, v3, v4] 75)).drew w.heap.size v0 v1 v2 v3 v4 := have h := five_new w v0 v1 v2 v3 v4; ⟨h.c0, h.c1, h.c2, h.c3, h.c4, h.fz⟩

theorem wpIn_to {F : Fence} {n : Nat} {P : Program} {c : Code} {Q : Exit → Act → World → Prop} {a : Act} {w : World} (A : Act) (X : World) (h1 : c.wpIn F n P (fun e a' W' => e = .normal ∧ a' = A ∧ W' = X) a w) (h2 : Q .normal A X) : c.wpIn F n P Q a w :=
  wpIn_mono h1 (by rintro e a' w' ⟨rfl, rfl, rfl⟩; exact h2)
theorem put5e_fz {w W : World} {b e x : Nat} {v0 v1 v2 v3 v4 ve : Value} (hW : W = ((((((w.setCell ⟨b, 0, none⟩ v0).setCell ⟨b, 1, none⟩ v1).setCell ⟨b, 2, none⟩ v2).setCell ⟨b, 3, none⟩ v3).setCell ⟨b, 4, none⟩ v4).setCell ⟨e, 0, none⟩ ve).drew) (o : Nat) (h : w.frozen? ⟨x, o, none⟩ = false) : W.frozen? ⟨x, o, none⟩ = false := by
  subst hW
  have hd : ∀ W : World, W.drew.frozen? ⟨x, o, none⟩ = W.frozen? ⟨x, o, none⟩ := fun W => rfl
  rw [hd]
  simp only [World.frozen?_setCell]
  exact h
theorem leavesM_call {P : Program} {fn : Func} {tmps : Array Value} {R : Ending → World → Prop} {fv : Fn} {cap dargs : Array Value} {ds : List Deferred} {w : World} {f : FuncId} {args : Array Value} (hi : (invoke (.fn fv cap) dargs).run P w = .ok (.enter f args) w)
    (h : CallsDIn Fence.wide 0 P f args .returning w fun
      | .returned _, u', w' => LeavesInM Fence.wide 0 P fn tmps R ds (settle u') w'
      | .panicked chain, u', w' => LeavesInM Fence.wide 0 P fn tmps R ds (raised u' chain) w'
      | .outgrown, _, w' => R .outgrown w') : LeavesInM Fence.wide 0 P fn tmps R ({ target := .fn fv cap, args := dargs } :: ds) .returning w :=
  ⟨by simp, .inr ⟨fun hd => by simp [Fence.wide] at hd, fv, cap, f, args, rfl, hi, fun _ _ => trivial, h⟩⟩
/-- What a round over a string's pieces may change, seen from the world in which the loop begins. -/
def Sq (fb wk base e pb n0 : Nat) (X : World) (b : Nat) : Prop := b = fb ∨ b = wk ∨ (base ≤ b ∧ ∃ n, X.shape? b = some (1, n)) ∨ b = e ∨ b = pb ∨ n0 ≤ b
theorem sq_wf {fb wk base e pb n0 : Nat} {X W W' : World} (h : Same (Sq fb wk base e pb n0 X) X W) (g : Same (Wf fb base wk W) W W') : Same (Sq fb wk base e pb n0 X) X W' :=
  h.trans' (g.mono (T := fun b => Sq fb wk base e pb n0 X b ∨ W.heap.size ≤ b ∨ ∃ n, base ≤ b ∧ W.shape? b = some (1, n)) (fun b _ hb => by
    rcases hb with hb | hb | ⟨h0, n, hb⟩
    · exact .inl (.inl hb)
    · exact .inl (.inr (.inl hb))
    · exact .inr (.inr ⟨n, h0, hb⟩))) (fun b hb hlt => by
    rcases hb with hb | hb | ⟨n, h0, hb⟩
    · exact hb
    · have := h.size; omega
    · exact .inr (.inr (.inl ⟨h0, n, by rw [← h.shp b hlt]; exact hb⟩)))
theorem sq_base {fb wk base e pb n0 : Nat} {X W : World} (h : Same (Sq fb wk base e pb n0 X) X W) (h1 : base ≤ wk) (h2 : base ≤ e) (h3 : base ≤ pb) (h4 : base ≤ n0) : Same (fun b => b = fb ∨ base ≤ b) X W := h.mono fun b _ hb => by
  rcases hb with h | h | ⟨h, -⟩ | h | h | h
  · exact .inl h
  · exact .inr (by omega)
  · exact .inr h
  · exact .inr (by omega)
  · exact .inr (by omega)
  · exact .inr (by omega)
theorem five_put {w7 w W : World} {b : Nat} {u0 u1 u2 u3 u4 v0 v1 v2 v3 v4 : Value} (hW : W = ((((w.setCell ⟨b, 0, none⟩ v0).setCell ⟨b, 1, none⟩ v1).setCell ⟨b, 2, none⟩ v2).setCell ⟨b, 3, none⟩ v3).setCell ⟨b, 4, none⟩ v4)
    (h : Five w b u0 u1 u2 u3 u4) (hs : Same (fun _ => False) w7 w) (hb : w7.heap.size ≤ b) (hsh : w.shape? b = some (75, 5)) : w7.heap.size ≤ b ∧ Five W b v0 v1 v2 v3 v4 ∧ Same (fun _ => False) w7 W ∧ W.shape? b = some (75, 5) := by
  obtain ⟨p0, p1, p2, p3, p4⟩ := put5 (v0 := v0) (v1 := v1) (v2 := v2) (v3 := v3) (v4 := v4) h.c0 h.c1 h.c2 h.c3 h.c4
  have hs2 : Same (· = b) w W := by
    rw [hW]; exact (((((Same.refl (· = b) w).setCell _ (.inr rfl)).setCell _ (.inr rfl)).setCell _ (.inr rfl)).setCell _ (.inr rfl)).setCell _ (.inr rfl)
  rw [← hW] at p0 p1 p2 p3 p4
  exact ⟨hb, ⟨p0, p1, p2, p3, p4, fun o => by rw [hW]; simp only [World.frozen?_setCell]; exact h.fz o⟩, hs.trans' (hs2.mono (T := fun k => w7.heap.size ≤ k) (fun k _ e => by omega)) (fun k hk _ => by omega), (hs2.shp b (World.block_lt_of_cell? _ _ h.c0)).trans hsh⟩

/-- What stands at the tail of an image's work. -/
structure Tl (w W : World) (f fb wk sb vb D D2 : Nat) (X : Nat → Prop) (k : Int) (x0 x1 x2 x3 x4 : Value) (N : Mm) (U : List Und) (er : Int) : Prop where
  mem : MemAt W f fb N
  work : WorkAt W w.heap.size wk f k X U
  xb : ∀ b, X b → b < W.heap.size
  eb : W.cell? ⟨w.heap.size + 1, 0, none⟩ = some (.int .i64 er)
  ez : W.frozen? ⟨w.heap.size + 1, 0, none⟩ = false
  es : W.shape? (w.heap.size + 1) = some (25, 1)
  en : w.heap.size + 1 ≠ fb ∧ w.heap.size + 1 ≠ wk
  z : Five W w.heap.size (.int .i64 0) (.int .i64 0) (.int .i64 0) (.int .i64 0) (.slice none 0 0)
  zs : W.shape? w.heap.size = some (75, 5)
  zn : w.heap.size ≠ fb ∧ w.heap.size ≠ wk
  s : Five W sb x0 x1 x2 x3 x4
  ss : ∀ n, w.heap.size ≤ sb → W.shape? sb ≠ some (1, n)
  sn : sb ≠ fb ∧ sb ≠ wk ∧ sb ≠ w.heap.size + 1
  v : W.cell? ⟨vb, 0, none⟩ = some (.pointer (some ⟨wk, 0, none⟩))
  vs : W.shape? vb = some (144, 1)
  vn : vb ≠ fb ∧ vb ≠ wk
  d : W.heap[D]? = some (.deferred (some []))
  d2 : W.heap[D2]? = some (.deferred (some []))
  dn : D2 ≠ D ∧ w.heap.size ≤ D ∧ w.heap.size ≤ D2
  base : Same (fun b => b = fb ∨ w.heap.size ≤ b) w W
theorem Tl.call {w W W' : World} {f fb wk sb vb D D2 : Nat} {X : Nat → Prop} {k : Int} {x0 x1 x2 x3 x4 : Value} {N N' : Mm} {U U' : List Und} {er : Int} (h : Tl w W f fb wk sb vb D D2 X k x0 x1 x2 x3 x4 N U er)
    (hM : MemAt W' f fb N') (hW : WorkAt W' w.heap.size wk f k X U') (hs : Same (Wf fb w.heap.size wk W) W W') : Tl w W' f fb wk sb vb D D2 X k x0 x1 x2 x3 x4 N' U' er := by
  have ne : ¬ Wf fb w.heap.size wk W (w.heap.size + 1) := wf_free h.es h.en.1 h.en.2 (by simp)
  have nz : ¬ Wf fb w.heap.size wk W w.heap.size := wf_free h.zs h.zn.1 h.zn.2 (by simp)
  have nv : ¬ Wf fb w.heap.size wk W vb := wf_free h.vs h.vn.1 h.vn.2 (by simp)
  have ns : ¬ Wf fb w.heap.size wk W sb := by
    rintro (e | e | ⟨e, n, g⟩)
    · exact h.sn.1 e
    · exact h.sn.2.1 e
    · exact h.ss n e g
  have nd : ∀ b, W.heap[b]? = some (.deferred (some [])) → ¬ Wf fb w.heap.size wk W b := fun b hb => by
    have := shape_none hb rfl
    rintro (e | e | ⟨e, n, g⟩)
    · obtain ⟨n, g⟩ := h.mem.sh; rw [e, g] at this; cases this
    · rw [e, h.work.sh] at this; cases this
    · rw [g] at this; cases this
  have hz := hs.size
  have l1 := World.block_lt_of_cell? _ _ h.eb
  have l2 := World.block_lt_of_cell? _ _ h.z.c0
  have l3 := World.block_lt_of_cell? _ _ h.v
  have l4 := World.block_lt_of_cell? _ _ h.s.c0
  exact { mem := hM, work := hW, xb := fun b hb => Nat.lt_of_lt_of_le (h.xb b hb) hz, eb := hs.cell h.eb ne, ez := hs.unfrozen h.eb h.ez ne, es := (hs.shp _ l1).trans h.es, en := h.en, z := h.z.same hs nz, zs := (hs.shp _ l2).trans h.zs, zn := h.zn,
          s := h.s.same hs ns, ss := fun n hn g => h.ss n hn ((hs.shp _ l4).symm.trans g), sn := h.sn, v := hs.cell h.v nv, vs := (hs.shp _ l3).trans h.vs, vn := h.vn, d := hs.block h.d (nd _ h.d), d2 := hs.block h.d2 (nd _ h.d2), dn := h.dn,
          base := h.base.trans' (hs.mono (T := fun b => b = fb ∨ w.heap.size ≤ b) (fun b _ g => by
            rcases g with g | g | ⟨g, -⟩
            · exact .inl g
            · exact .inr (by have := h.work.hb; omega)
            · exact .inr g)) (fun b g _ => g) }
theorem Tl.err {w W W' : World} {f fb wk sb vb D D2 : Nat} {X : Nat → Prop} {k : Int} {x0 x1 x2 x3 x4 : Value} {N : Mm} {U : List Und} {er : Int} (h : Tl w W f fb wk sb vb D D2 X k x0 x1 x2 x3 x4 N U er)
    (e : Int) (hW : W' = W.setCell ⟨w.heap.size + 1, 0, none⟩ (.int .i64 e)) : Tl w W' f fb wk sb vb D D2 X k x0 x1 x2 x3 x4 N U e := by
  have hs : Same (· = w.heap.size + 1) W W' := by rw [hW]; exact (Same.refl _ _).setCell _ (.inr rfl)
  have nd : ∀ b, W.heap[b]? = some (.deferred (some [])) → ¬ b = w.heap.size + 1 := fun b hb g => by
    have := shape_none hb rfl
    rw [g, h.es] at this; cases this
  have hz := hs.size
  have nf : f ≠ w.heap.size + 1 := fun g => by
    have := World.block_lt_of_cell? _ _ h.eb
    obtain ⟨n, q⟩ := h.mem.sf
    rw [g, h.es] at q; cases q
  have l1 := World.block_lt_of_cell? _ _ h.eb
  have l2 := World.block_lt_of_cell? _ _ h.z.c0
  have l3 := World.block_lt_of_cell? _ _ h.v
  have l4 := World.block_lt_of_cell? _ _ h.s.c0
  have nv : ¬ vb = w.heap.size + 1 := fun g => by
    have := h.vs
    rw [g, h.es] at this; cases this
  exact { mem := h.mem.same hs nf (by have := h.en.1; omega), work := h.work.same hs (fun b hb => by rw [hb]; exact free_shape h.es (by simp)), xb := fun b hb => Nat.lt_of_lt_of_le (h.xb b hb) hz,
          eb := by rw [hW]; exact World.cell?_setCell_same _ _ _ h.eb, ez := by rw [hW, World.frozen?_setCell]; exact h.ez, es := (hs.shp _ l1).trans h.es, en := h.en, z := h.z.same hs (by omega), zs := (hs.shp _ l2).trans h.zs, zn := h.zn,
          s := h.s.same hs h.sn.2.2, ss := fun n hn g => h.ss n hn ((hs.shp _ l4).symm.trans g), sn := h.sn, v := hs.cell h.v nv, vs := (hs.shp _ l3).trans h.vs, vn := h.vn, d := hs.block h.d (nd _ h.d), d2 := hs.block h.d2 (nd _ h.d2), dn := h.dn,
          base := h.base.trans' (hs.mono (T := fun b => b = fb ∨ w.heap.size ≤ b) (fun b _ g => by omega)) (fun b g _ => g) }

theorem Tl.leave_err {w W W6 : World} {f fb wk sb vb D D2 : Nat} {X : Nat → Prop} {k : Int} {x0 x1 x2 x3 x4 : Value} {N : Mm} {U : List Und} {tmps : Array Value} {Q : Ending → World → Prop} (h : Tl w W f fb wk sb vb D D2 X k x0 x1 x2 x3 x4 N U 11) (hul : U.length ≤ 1000)
    (hW6 : W6 = ((((((W.setCell ⟨w.heap.size, 0, none⟩ (.int .i64 0)).setCell ⟨w.heap.size, 1, none⟩ (.int .i64 0)).setCell ⟨w.heap.size, 2, none⟩ (.int .i64 0)).setCell ⟨w.heap.size, 3, none⟩ (.int .i64 0)).setCell ⟨w.heap.size, 4, none⟩ (.slice none 0 0)).setCell ⟨w.heap.size + 1, 0, none⟩ (.int .i64 11)).drew)
    (h4 : tmps.getD 4 undef = .pointer (some ⟨w.heap.size, 0, none⟩)) (h5 : tmps.getD 5 undef = .pointer (some ⟨w.heap.size + 1, 0, none⟩))
    (hQ : ∀ w7, MemAt w7 f fb (N.undo k U.reverse) → Same (· = fb) w w7 → Q (.returned (.tuple #[noSpc, .int .i64 11])) w7) :
    LeavesInM Fence.wide 0 Try.prog Try.f46 tmps Q [{ target := .collected D2, args := #[] }, { target := .collected D, args := #[] }, { target := .fn (.func 83) #[], args := #[.pointer (some ⟨wk, 0, none⟩), .pointer (some ⟨w.heap.size + 1, 0, none⟩)] }] .returning W6 := by
  obtain ⟨f0, f1, f2, f3, f4, ff⟩ := h.z
  obtain ⟨⟨k0, k1, k2, k3, k4⟩, fe6, s56⟩ := put5e hW6 f0 f1 f2 f3 f4 h.eb (by omega)
  have l1 : w.heap.size + 1 < W.heap.size := World.block_lt_of_cell? _ _ h.eb
  have nd : ∀ b, W.heap[b]? = some (.deferred (some [])) → b ≠ w.heap.size + 1 ∧ b ≠ w.heap.size := fun b hb => by
    have := shape_none hb rfl
    exact ⟨fun g => (by rw [g, h.es] at this; cases this), fun g => (by rw [g, h.zs] at this; cases this)⟩
  have nf : f ≠ w.heap.size + 1 ∧ f ≠ w.heap.size := by
    obtain ⟨n, q⟩ := h.mem.sf
    exact ⟨fun g => (by rw [g, h.es] at q; cases q), fun g => (by rw [g, h.zs] at q; cases q)⟩
  have n0 := h.zn
  have n1 := h.en
  have sD := nd _ h.d
  have sD2 := nd _ h.d2
  have hM6 := h.mem.same s56 (by omega) (by omega)
  have hW6' := h.work.same s56 (fun b hb => by
    rcases hb with rfl | rfl
    · exact free_shape h.es (by simp)
    · exact free_shape h.zs (by simp))
  have g9 := s56.block h.d2 (by omega)
  have g10 := s56.block h.d (by omega)
  have sh9 := shape_none g9 rfl
  have sh10 := shape_none g10 rfl
  have shS : W6.shape? w.heap.size = some (75, 5) := (s56.shp _ (by omega)).trans h.zs
  have shE : W6.shape? (w.heap.size + 1) = some (25, 1) := (s56.shp _ (by omega)).trans h.es
  have z56 := s56.size
  refine leaves_cons g9 (fun W3 hs3 hz3 => ?_)
  have nDD : ∀ b t n, W6.shape? b = some (t, n) → b ≠ D2 ∧ b ≠ D := fun b t n hb => by
    refine ⟨fun e => ?_, fun e => ?_⟩
    · rw [e, sh9] at hb; cases hb
    · rw [e, sh10] at hb; cases hb
  obtain ⟨nfb, hnfb⟩ := hM6.sh
  obtain ⟨nff, hnff⟩ := hM6.sf
  have e1 := nDD _ _ _ hnfb
  have e2 := nDD _ _ _ hnff
  have e3 := nDD _ _ _ shS
  have e4 := nDD _ _ _ shE
  have hdn := h.dn
  refine leaves_cons (hs3.block g10 (by omega)) (fun W4 hs4 hz4 => ?_)
  have hs34 : Same (fun b => b = D2 ∨ b = D) W6 W4 := (hs3.mono (fun _ _ h => .inl h)).trans (hs4.mono (fun _ _ h => .inr h))
  have hM3 := hM6.same hs34 (by omega) (by omega)
  have hW3 := hW6'.same hs34 (fun b hb => .inr fun t' m h => by have := nDD b t' m h; omega)
  have fe3 := hs34.cell fe6 (by simp; omega)
  refine leavesM_call (f := 83) (args := #[.pointer (some ⟨wk, 0, none⟩), .pointer (some ⟨w.heap.size + 1, 0, none⟩)]) (by simp [go_sem]) ?_
  refine (ends_err hM3 hW3 (by omega) fe3 (by omega)).mono ?_
  rintro e u' w7 ⟨rfl, ⟨v, rfl⟩, hM7, hs7⟩
  have s37 : Same (fun b => b = D2 ∨ b = D ∨ b = fb) W6 w7 := (hs34.mono (fun b _ h => by omega)).trans (hs7.mono (fun b _ h => by omega))
  refine leaves_nil (results_cells2 rfl h4 h5 (loadVar75 _ _ _ _ _ _ _ (s37.cell k0 (by simp; omega)) (s37.cell k1 (by simp; omega)) (s37.cell k2 (by simp; omega)) (s37.cell k3 (by simp; omega)) (s37.cell k4 (by simp; omega))) (loadVar25 _ _ _ (s37.cell fe6 (by simp; omega)))) ?_
  exact hQ _ hM7 (((h.base.trans (s56.mono (T := fun b => b = fb ∨ w.heap.size ≤ b) (fun b _ g => by omega))).trans (s37.mono (T := fun b => b = fb ∨ w.heap.size ≤ b) (fun b _ g => by omega))).mono (fun b hb g => by omega))
theorem Tl.leave_ok {w W W6 : World} {f fb wk sb vb D D2 : Nat} {X : Nat → Prop} {k : Int} {x0 x1 x2 x3 x4 : Value} {N : Mm} {U : List Und} {tmps : Array Value} {Q : Ending → World → Prop} (h : Tl w W f fb wk sb vb D D2 X k x0 x1 x2 x3 x4 N U 0)
    (hW6 : W6 = ((((((W.setCell ⟨w.heap.size, 0, none⟩ x0).setCell ⟨w.heap.size, 1, none⟩ x1).setCell ⟨w.heap.size, 2, none⟩ x2).setCell ⟨w.heap.size, 3, none⟩ x3).setCell ⟨w.heap.size, 4, none⟩ x4).setCell ⟨w.heap.size + 1, 0, none⟩ (.int .i64 0)))
    (h4 : tmps.getD 4 undef = .pointer (some ⟨w.heap.size, 0, none⟩)) (h5 : tmps.getD 5 undef = .pointer (some ⟨w.heap.size + 1, 0, none⟩))
    (hQ : ∀ w7, MemAt w7 f fb N → Same (· = fb) w w7 → Q (.returned (.tuple #[.agg #[x0, x1, x2, x3, x4], .int .i64 0])) w7) :
    LeavesInM Fence.wide 0 Try.prog Try.f46 tmps Q [{ target := .collected D2, args := #[] }, { target := .collected D, args := #[] }, { target := .fn (.func 83) #[], args := #[.pointer (some ⟨wk, 0, none⟩), .pointer (some ⟨w.heap.size + 1, 0, none⟩)] }] .returning W6 := by
  obtain ⟨f0, f1, f2, f3, f4, ff⟩ := h.z
  obtain ⟨⟨k0, k1, k2, k3, k4⟩, fe6, s56⟩ := put5f hW6 f0 f1 f2 f3 f4 h.eb (by omega)
  have l1 : w.heap.size + 1 < W.heap.size := World.block_lt_of_cell? _ _ h.eb
  have nd : ∀ b, W.heap[b]? = some (.deferred (some [])) → b ≠ w.heap.size + 1 ∧ b ≠ w.heap.size := fun b hb => by
    have := shape_none hb rfl
    exact ⟨fun g => (by rw [g, h.es] at this; cases this), fun g => (by rw [g, h.zs] at this; cases this)⟩
  have nf : f ≠ w.heap.size + 1 ∧ f ≠ w.heap.size := by
    obtain ⟨n, q⟩ := h.mem.sf
    exact ⟨fun g => (by rw [g, h.es] at q; cases q), fun g => (by rw [g, h.zs] at q; cases q)⟩
  have n0 := h.zn
  have n1 := h.en
  have sD := nd _ h.d
  have sD2 := nd _ h.d2
  have hM6 := h.mem.same s56 (by omega) (by omega)
  have hW6' := h.work.same s56 (fun b hb => by
    rcases hb with rfl | rfl
    · exact free_shape h.es (by simp)
    · exact free_shape h.zs (by simp))
  have g9 := s56.block h.d2 (by omega)
  have g10 := s56.block h.d (by omega)
  have sh9 := shape_none g9 rfl
  have sh10 := shape_none g10 rfl
  have shS : W6.shape? w.heap.size = some (75, 5) := (s56.shp _ (by omega)).trans h.zs
  have shE : W6.shape? (w.heap.size + 1) = some (25, 1) := (s56.shp _ (by omega)).trans h.es
  have z56 := s56.size
  refine leaves_cons g9 (fun W3 hs3 hz3 => ?_)
  have nDD : ∀ b t n, W6.shape? b = some (t, n) → b ≠ D2 ∧ b ≠ D := fun b t n hb => by
    refine ⟨fun e => ?_, fun e => ?_⟩
    · rw [e, sh9] at hb; cases hb
    · rw [e, sh10] at hb; cases hb
  obtain ⟨nfb, hnfb⟩ := hM6.sh
  obtain ⟨nff, hnff⟩ := hM6.sf
  have e1 := nDD _ _ _ hnfb
  have e2 := nDD _ _ _ hnff
  have e3 := nDD _ _ _ shS
  have e4 := nDD _ _ _ shE
  have hdn := h.dn
  refine leaves_cons (hs3.block g10 (by omega)) (fun W4 hs4 hz4 => ?_)
  have hs34 : Same (fun b => b = D2 ∨ b = D) W6 W4 := (hs3.mono (fun _ _ h => .inl h)).trans (hs4.mono (fun _ _ h => .inr h))
  have hM3 := hM6.same hs34 (by omega) (by omega)
  have hW3 := hW6'.same hs34 (fun b hb => .inr fun t' m h => by have := nDD b t' m h; omega)
  have fe3 := hs34.cell fe6 (by simp; omega)
  refine leavesM_call (f := 83) (args := #[.pointer (some ⟨wk, 0, none⟩), .pointer (some ⟨w.heap.size + 1, 0, none⟩)]) (by simp [go_sem]) ?_
  refine (ends_ok W4 _ _ .returning fe3).mono ?_
  rintro e u' w7 ⟨rfl, ⟨v, rfl⟩, rfl⟩
  have s37 : Same (fun b => b = D2 ∨ b = D ∨ b = fb) W6 W4 := hs34.mono (fun b _ h => by omega)
  refine leaves_nil (results_cells2 rfl h4 h5 (loadVar75 _ _ _ _ _ _ _ (s37.cell k0 (by simp; omega)) (s37.cell k1 (by simp; omega)) (s37.cell k2 (by simp; omega)) (s37.cell k3 (by simp; omega)) (s37.cell k4 (by simp; omega))) (loadVar25 _ _ _ (s37.cell fe6 (by simp; omega)))) ?_
  exact hQ _ hM3 (((h.base.trans (s56.mono (T := fun b => b = fb ∨ w.heap.size ≤ b) (fun b _ g => by omega))).trans (s37.mono (T := fun b => b = fb ∨ w.heap.size ≤ b) (fun b _ g => by omega))).mono (fun b hb g => by omega))

set_option maxHeartbeats 6400000 in
set_option maxRecDepth 16384 in
theorem exec_ok {w : World} {f fb : Nat} {M : Mm} (hM : MemAt w f fb M) (img : ByteArray) (n1 n2 : Nat) (hn1 : n1 ≤ 255) (hn2 : n2 ≤ 255) (hok : ImgOk img n1 n2) :
    Calls Try.prog 46 #[.pointer (some ⟨f, 0, none⟩), .string img] w fun e w' => MemAt w' f fb (M.exec (img.extract 3 (3 + n1)) (img.extract (3 + n1) img.size)).1 ∧ Same (· = fb) w w' ∧
      (((M.exec (img.extract 3 (3 + n1)) (img.extract (3 + n1) img.size)).2.2 = 0 ∧ e = .returned (.tuple #[.agg #[.int .i64 (M.exec (img.extract 3 (3 + n1)) (img.extract (3 + n1) img.size)).2.1, .int .i64 (spn 0 n1), .int .i64 (spn 0 n2), .int .i64 0, .slice none 0 0], .int .i64 0])) ∨
      ((M.exec (img.extract 3 (3 + n1)) (img.extract (3 + n1) img.size)).2.2 ≠ 0 ∧ e = .returned (.tuple #[noSpc, .int .i64 11]))) := by
  obtain ⟨t, ht⟩ : ∃ t, t = img.extract 3 (3 + n1) := ⟨_, rfl⟩
  obtain ⟨d, hd⟩ : ∃ d, d = img.extract (3 + n1) img.size := ⟨_, rfl⟩
  rw [← ht, ← hd]
  obtain ⟨R, hR⟩ : ∃ R, R = M.exec t d := ⟨_, rfl⟩
  rw [← hR]
  obtain ⟨hb0, ⟨b1, hb1, e1⟩, ⟨b2, hb2, e2⟩, hsz⟩ := hok
  have htz : t.size = n1 := by rw [ht, ByteArray.size_extract]; omega
  have hdz : d.size = n2 := by rw [hd, ByteArray.size_extract]; omega
  have x0 : ∀ w, (Instr.index 9 (.string img) (.int .i64 0)).run Try.prog w = .ok (.int .u8 88) w := index_fact img 0 88 (by omega) hb0
  have x1 : ∀ w, (Instr.index 9 (.string img) (.int .i64 1)).run Try.prog w = .ok (.int .u8 (b1.toNat : Int)) w := index_fact img 1 b1 (by omega) hb1
  have x2 : ∀ w, (Instr.index 9 (.string img) (.int .i64 2)).run Try.prog w = .ok (.int .u8 (b2.toNat : Int)) w := index_fact img 2 b2 (by omega) hb2
  rw [e1] at x1
  rw [e2] at x2
  have sl1 : ∀ w, (Instr.slice 9 (.string img) (some (.int .i64 3)) (some (.int .i64 (3 + (n1 : Int)))) none).run Try.prog w = .ok (.string t) w := by
    intro w
    rw [ht, show (3 + (n1 : Int)) = ((3 + n1 : Nat) : Int) by omega, run_slice_string w 9 img .i64 .i64 3 ((3 + n1 : Nat) : Int) Try.underlying9 (by omega) (by omega) (by omega)]
    rfl
  have sl2 : ∀ w, (Instr.slice 9 (.string img) (some (.int .i64 (3 + (n1 : Int)))) none none).run Try.prog w = .ok (.string d) w := by
    intro w
    rw [hd, show (3 + (n1 : Int)) = ((3 + n1 : Nat) : Int) by omega, run_slice_string_l w 9 img Try.underlying9 .i64 ((3 + n1 : Nat) : Int) (by omega) (by omega)]
    rfl
  have hd3 : decide ((img.size : Int) < 3) = false := by simp; omega
  have hd88 : ((88 : Int) != 88) = false := by simp
  have hds : ((img.size : Int) != 3 + (n1 : Int) + (n2 : Int)) = false := by simp; omega
  have hds2 : ((img.size : Int) == 3 + (n1 : Int) + (n2 : Int)) = true := by simp; omega
  have hlt := hM.lt
  obtain ⟨A, hA⟩ : ∃ A, A = (w.alloc (.cells #[.int .i64 0, .int .i64 0, .int .i64 0, .int .i64 0, .slice none 0 0] 75)).alloc (.cells #[.int .i64 0] 25) := ⟨_, rfl⟩
  have hsA : Same (fun _ => False) w A := by rw [hA]; exact (same_alloc _).alloc _
  have R0 : Five A w.heap.size (.int .i64 0) (.int .i64 0) (.int .i64 0) (.int .i64 0) (.slice none 0 0) := by
    rw [hA]; exact ⟨by simp [go_sem], by simp [go_sem], by simp [go_sem], by simp [go_sem], by simp [go_sem], fun o => by simp [go_sem]⟩
  have e0 : A.cell? ⟨w.heap.size + 1, 0, none⟩ = some (.int .i64 0) := by rw [hA]; simp [go_sem]
  have ez : A.frozen? ⟨w.heap.size + 1, 0, none⟩ = false := by rw [hA]; simp [go_sem]
  have s0 : A.shape? w.heap.size = some (75, 5) := by rw [hA]; simp only [shape_alloc, World.size_alloc]; rw [if_neg (by omega)]; rfl
  have s1 : A.shape? (w.heap.size + 1) = some (25, 1) := by rw [hA]; simp only [shape_alloc, World.size_alloc]; rfl
  have hzA : A.heap.size = w.heap.size + 1 + 1 := by rw [hA]; simp
  have H := Lib.hid (And.intro hM (And.intro hsA (And.intro R0 (And.intro e0 (And.intro ez (And.intro s0 s1))))))
  have HA := Lib.hid hA
  have HT := Lib.hid (And.intro htz (And.intro hdz hR))
  have hz : img.size ≤ 1000 := by omega
  have HSZ := Lib.hid hsz
  clear hR hM hsA R0 e0 ez s0 s1 hA ht hd htz hdz hb0 hb1 e1 hb2 e2 hsz
  refine (callsIn_wide (n := 0)).1 ?_
  refine callsIn_of_wp_marks Try.func46 rfl trivial ?_ rfl
  simp only [Try.ntmps46, List.size_toArray, List.length_cons, List.length_nil, Nat.reduceAdd, Nat.reduceSub, Array.replicate_succ, Array.replicate_zero, List.push_toArray, List.append_toArray, List.nil_append, List.cons_append]
  gi_wp2
  refine wpIn_scope_straight (wpIn_wide.2 ?_)
  go_wp2
  go_quiet (fail)
  clear hd3 hd88 hds hds2 x2
  rw [← HA.out]
  have hbg := begun_any (H.out.1.same0 (H.out.2.1.drewN nq))
  go_wp2_with fail
  obtain ⟨A1, hA1⟩ : ∃ A1, A1 = A.drewN nq := ⟨_, rfl⟩
  have hAA : Same (fun _ => False) A A1 := by rw [hA1]; exact (Same.refl _ _).drewN _
  have hzA1 : A1.heap.size = A.heap.size := by rw [hA1]; rfl
  rw [← hA1] at hbg ⊢
  clear hA1
  refine hbg.mono ?_
  rintro e w1 ⟨wk, hwk, ⟨hall, rfl, hM1, hs1⟩ | ⟨k, hk, hRk, hleast, rfl, hM1, hW1, hs1⟩⟩
  · obtain ⟨hM, hsA, R0, e0, ez, s0, s1⟩ := H.out
    have hsw1 : Same (fun _ => False) A w1 := hAA.trans hs1
    have hz1 := hsw1.size
    obtain ⟨f0, f1, f2, f3, f4, ff⟩ := R0.same hsw1 (by simp)
    have g0 := hsw1.cell e0 (by simp)
    have gz := hsw1.unfrozen e0 ez (by simp)
    have hR2 : R = (M, 0, 11) := by rw [HT.out.2.2, Mm.exec, Mm.least_none hall]
    have HX := Lib.hid (And.intro hR2 (And.intro hM1 (hsA.trans hsw1)))
    obtain ⟨W5, hW5⟩ : ∃ W5, W5 = (w1.setCell ⟨w.heap.size + 1, 0, none⟩ (.int .i64 11)).alloc (.cells #[.pointer (some ⟨wk, 0, none⟩)] 144) := ⟨_, rfl⟩
    have hsE : Same (fun b => b = w.heap.size + 1) w1 W5 := by rw [hW5]; exact ((Same.refl (fun b => b = w.heap.size + 1) w1).setCell _ (.inr rfl)).alloc _
    have h0 := hsE.cell f0 (by simp)
    have h1 := hsE.cell f1 (by simp)
    have h2 := hsE.cell f2 (by simp)
    have h3 := hsE.cell f3 (by simp)
    have h4 := hsE.cell f4 (by simp)
    have z0 := hsE.unfrozen f0 (ff 0) (by simp)
    have z1 := hsE.unfrozen f1 (ff 1) (by simp)
    have z2 := hsE.unfrozen f2 (ff 2) (by simp)
    have z3 := hsE.unfrozen f3 (ff 3) (by simp)
    have z4 := hsE.unfrozen f4 (ff 4) (by simp)
    have fe : W5.cell? ⟨w.heap.size + 1, 0, none⟩ = some (.int .i64 11) := by rw [hW5]; exact (same_alloc _).cell (World.cell?_setCell_same _ _ _ g0) (by simp)
    have fez : W5.frozen? ⟨w.heap.size + 1, 0, none⟩ = false := by rw [hW5]; exact (same_alloc _).unfrozen (World.cell?_setCell_same _ _ _ g0) (by rw [World.frozen?_setCell]; exact gz) (by simp)
    have hg0 : w.heap.size + 1 < w1.heap.size := by omega
    have HS5 := Lib.hid (And.intro hW5 hsE)
    clear hR2 hM1 hs1 hM hsA R0 e0 ez s0 s1 ff f0 f1 f2 f3 f4 hsE hbg hall hsw1 hAA sl1 sl2 x0 x1
    go_wp2
    rw [← HS5.out.1]
    clear hW5 g0 gz
    go_region
    go_wp2
    simp only [Exit.noGoto]
    obtain ⟨W6, hW6⟩ : ∃ W6, W6 = ((((((W5.setCell ⟨w.heap.size, 0, none⟩ (.int .i64 0)).setCell ⟨w.heap.size, 1, none⟩ (.int .i64 0)).setCell ⟨w.heap.size, 2, none⟩ (.int .i64 0)).setCell ⟨w.heap.size, 3, none⟩ (.int .i64 0)).setCell ⟨w.heap.size, 4, none⟩ (.slice none 0 0)).setCell ⟨w.heap.size + 1, 0, none⟩ (.int .i64 11)).drew := ⟨_, rfl⟩
    rw [← hW6]
    obtain ⟨⟨k0, k1, k2, k3, k4⟩, fe6, s56⟩ := put5e hW6 h0 h1 h2 h3 h4 fe (by omega)
    clear hW6 h0 h1 h2 h3 h4 fe z0 z1 z2 z3 z4 fez
    obtain ⟨hR2, hM1, hs1⟩ := HX.out
    refine leaves_nil (results_cells2 rfl (by rfl) (by rfl) (loadVar75 _ _ _ _ _ _ _ k0 k1 k2 k3 k4) (loadVar25 _ _ _ fe6)) ?_
    rw [hR2]
    refine ⟨(hM1.same HS5.out.2 (by omega) (by omega)).same s56 (by omega) (by omega), ?_, .inr ⟨by simp, rfl⟩⟩
    exact ((hs1.trans' (HS5.out.2.mono (T := fun b => w.heap.size ≤ b) (fun b _ h => by omega)) (fun b h _ => by omega)).trans' (s56.mono (T := fun b => w.heap.size ≤ b) (fun b _ h => by omega)) (fun b h _ => by omega)).mono (fun b hb h => by exact h.elim)
  · obtain ⟨hM, hsA, R0, e0, ez, s0, s1⟩ := H.out
    have hs01 : Same (· = fb) A w1 := (hAA.mono (fun _ _ h => h.elim)).trans hs1
    have hz1 := hs01.size
    have R1 := R0.same hs01 (by omega)
    have g0 := hs01.cell e0 (by simp; omega)
    have gz := hs01.unfrozen e0 ez (by simp; omega)
    obtain ⟨M1, hM1e⟩ : ∃ M1, M1 = M.alloc k := ⟨_, rfl⟩
    rw [← hM1e] at hM1
    have hR2 : R = ((Mm.fillU k M1 [.root] (imgItems t d)).1, (k : Int), (Mm.fillU k M1 [.root] (imgItems t d)).2) := by rw [HT.out.2.2, Mm.exec, Mm.least_some hk hRk hleast, hM1e]
    obtain ⟨W5, hW5⟩ : ∃ W5, W5 = (w1.setCell ⟨w.heap.size + 1, 0, none⟩ (.int .i64 0)).alloc (.cells #[.pointer (some ⟨wk, 0, none⟩)] 144) := ⟨_, rfl⟩
    have hsE : Same (fun b => b = w.heap.size + 1) w1 W5 := by rw [hW5]; exact ((Same.refl (fun b => b = w.heap.size + 1) w1).setCell _ (.inr rfl)).alloc _
    have sh1 : ∀ b, b < A.heap.size → w1.shape? b = A.shape? b := fun b hb => hs01.shp b hb
    have hM5 := hM1.same hsE (by omega) (by omega)
    have hW5' : WorkAt W5 w.heap.size wk f k (fun x => x < A.heap.size) [.root] := (((hW1.less (fun x hx _ => by omega)).same hsE (fun b hb => by subst hb; exact free_shape ((sh1 _ (by omega)).trans s1) (by simp))).base (by omega))
    have R5 := R1.same hsE (by simp)
    have fe : W5.cell? ⟨w.heap.size + 1, 0, none⟩ = some (.int .i64 0) := by rw [hW5]; exact (same_alloc _).cell (World.cell?_setCell_same _ _ _ g0) (by simp)
    have fez : W5.frozen? ⟨w.heap.size + 1, 0, none⟩ = false := by rw [hW5]; exact (same_alloc _).unfrozen (World.cell?_setCell_same _ _ _ g0) (by rw [World.frozen?_setCell]; exact gz) (by simp)
    have wv : W5.cell? ⟨w1.heap.size, 0, none⟩ = some (.pointer (some ⟨wk, 0, none⟩)) := by rw [hW5]; simp [go_sem]
    have wr1 : W5.cell? ⟨wk, 1, none⟩ = some (.int .i64 k) := hW5'.c1
    have sh5 : ∀ b, b < A.heap.size → W5.shape? b = A.shape? b := fun b hb => (hsE.shp b (by omega)).trans (sh1 b hb)
    have shv : W5.shape? w1.heap.size = some (144, 1) := by rw [hW5, shape_alloc]; simp
    have hg0 : w.heap.size + 1 < w1.heap.size := by omega
    have hzW5 : W5.heap.size = w1.heap.size + 1 := by rw [hW5]; simp
    have hwk1 := hW1.lt
    have hSw : Same (fun b => b = fb ∨ w.heap.size ≤ b) w W5 := ((hsA.mono (T := fun b => b = fb ∨ w.heap.size ≤ b) (fun _ _ h => h.elim)).trans (hs01.mono (T := fun b => b = fb ∨ w.heap.size ≤ b) (fun _ _ h => .inl h))).trans (hsE.mono (T := fun b => b = fb ∨ w.heap.size ≤ b) (fun b _ h => by omega))
    have HX := Lib.hid (And.intro hR2 (And.intro hM5 (And.intro hW5' (And.intro R5 (And.intro sh5 (And.intro shv hSw))))))
    have HW5 := Lib.hid hW5
    have hsp : ∀ (w : World) (n : Nat), n ≤ 255 → Calls Try.prog 75 #[.int .i64 0, .int .i64 (n : Int)] w fun e w' => e = .returned (.int .i64 (spn 0 n)) ∧ Same (fun _ => False) w w' := fun w n hn => spans_any w 0 n (by omega) (by omega)
    have htz : t.size ≤ 255 := by rw [HT.out.1]; omega
    have hdz : d.size ≤ 255 := by rw [HT.out.2.1]; omega
    clear hR2 hM5 hW5' R5 sh5 shv hSw hsE sh1 hM1 hM1e hM hsA R0 e0 ez s0 s1 hW1 hs1 hs01 R1 hAA hbg x0
    go_wp2_with fail
    rw [← HW5.out]
    clear hW5 g0 gz
    go_quiet (fail)
    obtain ⟨W7, hW7⟩ : ∃ W7, W7 = W5.drewN nq := ⟨_, rfl⟩
    have s57 : Same (fun _ => False) W5 W7 := by rw [hW7]; exact (Same.refl _ _).drewN _
    have hz7 : W7.heap.size = W5.heap.size := by rw [hW7]; rfl
    rw [← hW7]
    have fe7 := s57.cell fe (by simp)
    have fez7 := s57.unfrozen fe fez (by simp)
    have wv7 := s57.cell wv (by simp)
    have wr7 := s57.cell wr1 (by simp)
    have hl7 : w1.heap.size < W7.heap.size := by omega
    have hwk7 : wk < W7.heap.size := by omega
    have HS57 := Lib.hid (And.intro s57 (And.intro hz7 hzW5))
    clear hW7 s57 fe fez wv wr1 sl1 sl2 x1 hz7 hzW5
    go_wp2
    have hsp7 : ∀ (w : World) (n : Nat), Same (fun _ => False) W7 w → n ≤ 255 → Calls Try.prog 75 #[.int .i64 0, .int .i64 (n : Int)] w fun e w' => e = .returned (.int .i64 (spn 0 n)) ∧ Same (fun _ => False) W7 w' := fun w n h hn => (hsp w n hn).mono fun e w' ⟨h1, h2⟩ => ⟨h1, h.trans h2⟩
    have hspB : ∀ (w : World) (b n : Nat), Same (fun _ => False) W7 w → Five w b (.int .i64 0) (.int .i64 0) (.int .i64 0) (.int .i64 0) (.slice none 0 0) → W7.heap.size ≤ b → n ≤ 255 → Calls Try.prog 75 #[.int .i64 0, .int .i64 (n : Int)] w fun e w' => e = .returned (.int .i64 (spn 0 n)) ∧ Same (fun _ => False) W7 w' ∧ (w'.cell? ⟨w1.heap.size, 0, none⟩ = some (.pointer (some ⟨wk, 0, none⟩)) ∧ w'.cell? ⟨wk, 1, none⟩ = some (.int .i64 k)) ∧ (¬ w1.heap.size = b ∧ ¬ wk = b ∧ ¬ b = w1.heap.size ∧ ¬ b = wk) ∧
        w'.cell? ⟨b, 0, none⟩ = some (.int .i64 0) ∧ w'.cell? ⟨b, 1, none⟩ = some (.int .i64 0) ∧ w'.cell? ⟨b, 2, none⟩ = some (.int .i64 0) ∧ w'.cell? ⟨b, 3, none⟩ = some (.int .i64 0) ∧ w'.cell? ⟨b, 4, none⟩ = some (.slice none 0 0) ∧
        w'.frozen? ⟨b, 0, none⟩ = false ∧ w'.frozen? ⟨b, 1, none⟩ = false ∧ w'.frozen? ⟨b, 2, none⟩ = false ∧ w'.frozen? ⟨b, 3, none⟩ = false ∧ w'.frozen? ⟨b, 4, none⟩ = false ∧ Hid (Five w' b (.int .i64 0) (.int .i64 0) (.int .i64 0) (.int .i64 0) (.slice none 0 0) ∧ ∀ x, w.shape? b = some x → w'.shape? b = some x) := fun w b n h h5 hb7 hn => (hsp w n hn).mono fun e w' ⟨h1, h2⟩ => by
      have g := h5.same h2 (fun h => h)
      exact ⟨h1, h.trans h2, ⟨(h.trans h2).cell wv7 (by simp), (h.trans h2).cell wr7 (by simp)⟩, ⟨by omega, by omega, by omega, by omega⟩, g.c0, g.c1, g.c2, g.c3, g.c4, g.fz 0, g.fz 1, g.fz 2, g.fz 3, g.fz 4, Lib.hid ⟨g, fun x hx => (h2.shp b (World.block_lt_of_cell? _ _ h5.c0)).trans hx⟩⟩
    apply wp_via (S := fun b W => W7.heap.size ≤ b ∧ Five W b (.int .i64 k) (.int .i64 (spn 0 t.size)) (.int .i64 (spn 0 d.size)) (.int .i64 0) (.slice none 0 0) ∧ Same (fun _ => False) W7 W ∧ W.shape? b = some (75, 5)) (G := fun _ W => W)
    case h1 =>
      go_region_held3 (fun W => W.cell? ⟨w1.heap.size, 0, none⟩ = some (.pointer (some ⟨wk, 0, none⟩)) ∧ W.cell? ⟨wk, 1, none⟩ = some (.int .i64 k)) (first | go_keep | with_reducible exact ⟨hsq.cell wv7 (by simp), hsq.cell wr7 (by simp)⟩ | with_reducible exact ⟨(hsq.alloc _).cell wv7 (by simp), (hsq.alloc _).cell wr7 (by simp)⟩ | with_reducible exact ⟨((Same.refl (fun _ => False) W7).drew.alloc _).cell wv7 (by simp), ((Same.refl (fun _ => False) W7).drew.alloc _).cell wr7 (by simp)⟩ | with_reducible exact ⟨((Same.refl (fun _ => False) W7).alloc _).drew.cell wv7 (by simp), ((Same.refl (fun _ => False) W7).alloc _).drew.cell wr7 (by simp)⟩) (first | (go_at_call 75; refine (hspB _ _ _ (by first | with_reducible exact hsq | with_reducible exact hsq.alloc _ | with_reducible exact (Same.refl _ W7).drew | with_reducible exact ((Same.refl _ W7).alloc _).drew | with_reducible exact (Same.refl _ W7).alloc _ | with_reducible exact ((Same.refl _ W7).drew).alloc _) (by first | with_reducible exact h5q.out.1 | with_reducible exact five_newx W7 _ _ _ _ _ | with_reducible exact five_new W7 _ _ _ _ _ | with_reducible exact five_newd W7 _ _ _ _ _ | with_reducible exact five_new wq _ _ _ _ _) (by first | exact Nat.le_refl _ | with_reducible exact hq7 | with_reducible exact hsq.size) (by assumption)).mono ?_; rintro e wq ⟨rfl, hsq, ⟨y1, y2⟩, ⟨y3, y4, y5, y6⟩, c0, c1, c2, c3, c4, z0, z1, z2, z3, z4, h5q⟩) | (go_at_call 75; refine (hsp7 _ _ (by first | with_reducible exact hsq | with_reducible exact (Same.refl _ W7).drew ) (by assumption)).mono ?_; rintro e wq ⟨rfl, hsq⟩))
      · obtain ⟨b, hb⟩ : ∃ b, b = wq.heap.size := ⟨_, rfl⟩
        obtain ⟨W, hW⟩ : ∃ W, W = wq.alloc (.cells #[.int .i64 k, .int .i64 (spn 0 t.size), .int .i64 (spn 0 d.size), .int .i64 0, .slice none 0 0] 75) := ⟨_, rfl⟩
        rw [← hb, ← hW]
        exact ⟨rfl, b, W, ⟨by rw [hb]; exact hsq.size, by rw [hW, hb]; exact five_new wq _ _ _ _ _, by rw [hW]; exact hsq.alloc _, by rw [hW, hb, shape_alloc]; simp⟩, rfl, rfl⟩
      · rename_i wp hsp9 _xx
        obtain ⟨b, hb⟩ : ∃ b, b = wp.heap.size := ⟨_, rfl⟩
        have h5 := h5q.out
        rw [← hb] at h5 c0 c1 c2 c3 c4 ⊢
        obtain ⟨W, hW⟩ : ∃ W, W = ((((wq.setCell ⟨b, 0, none⟩ (.int .i64 k)).setCell ⟨b, 1, none⟩ (.int .i64 (spn 0 t.size))).setCell ⟨b, 2, none⟩ (.int .i64 (spn 0 d.size))).setCell ⟨b, 3, none⟩ (.int .i64 0)).setCell ⟨b, 4, none⟩ (.slice none 0 0) := ⟨_, rfl⟩
        rw [← hW]
        exact ⟨rfl, b, W, five_put hW h5.1 hsq (by rw [hb]; exact hsp9.size) (h5.2 _ (by rw [hb, shape_alloc]; simp)), rfl, rfl⟩
      · obtain ⟨b, hb⟩ : ∃ b, b = W7.heap.size := ⟨_, rfl⟩
        have h5 := h5q.out
        rw [← hb] at h5 c0 c1 c2 c3 c4 ⊢
        obtain ⟨W, hW⟩ : ∃ W, W = ((((wq.setCell ⟨b, 0, none⟩ (.int .i64 k)).setCell ⟨b, 1, none⟩ (.int .i64 (spn 0 t.size))).setCell ⟨b, 2, none⟩ (.int .i64 (spn 0 d.size))).setCell ⟨b, 3, none⟩ (.int .i64 0)).setCell ⟨b, 4, none⟩ (.slice none 0 0) := ⟨_, rfl⟩
        rw [← hW]
        have h9 := five_put hW h5.1 hsq (by rw [hb]; exact Nat.le_refl _) (h5.2 _ (by rename_i h5p _xx; rw [hb]; exact h5p.out.2 _ (by show World.shape? (W7.alloc _) _ = _; rw [shape_alloc]; simp)))
        exact ⟨rfl, b, W, ⟨Nat.le_refl _, h9.2⟩, rfl, rfl⟩
    rintro sb W8 ⟨hsb, F8, s78, sh8⟩
    obtain ⟨hR2, hM5, hW5', R5, sh5, shv, hSw⟩ := HX.out
    obtain ⟨s57, hz7, hzW5⟩ := HS57.out
    have s58 := s57.trans s78
    have hz8 := s78.size
    have hsb8 : sb < W8.heap.size := World.block_lt_of_cell? _ _ F8.c0
    have fe8 := s78.cell fe7 (by simp)
    have fez8 := s78.unfrozen fe7 fez7 (by simp)
    have wv8 := s78.cell wv7 (by simp)
    have hN0 : ∀ W9 : World, Same (fun _ => False) W8 W9 → MemAt W9 f fb M1 ∧ WorkAt W9 w.heap.size wk f k (fun x => x < A.heap.size) [.root] ∧ Five W9 w.heap.size (.int .i64 0) (.int .i64 0) (.int .i64 0) (.int .i64 0) (.slice none 0 0) := fun W9 h => ⟨hM5.same0 (s58.trans h), hW5'.same0 (s58.trans h), R5.same (s58.trans h) (by simp)⟩
    have sh8a : ∀ b, b < A.heap.size → W8.shape? b = A.shape? b := fun b hb => (s58.shp b (by omega)).trans (sh5 b hb)
    have shv8 : W8.shape? w1.heap.size = some (144, 1) := (s58.shp _ (by omega)).trans shv
    have HS8 := Lib.hid (And.intro F8 (And.intro sh8 (And.intro s78 (And.intro @hN0 (And.intro sh8a shv8)))))
    have HXB := Lib.hid (And.intro hsb hz7)
    clear hR2 hM5 hW5' R5 sh5 shv hSw s57 s58 F8 sh8 s78 hN0 sh8a shv8 fe7 fez7 wv7 wr7 hsp hsp7 hspB hz7 hzW5 hsb
    go_wp2
    refine wp_loop_rounds 3 ?_
    rw [rounds_succ]
    obtain ⟨B1, hB1⟩ : ∃ B, B = ((W8.alloc (.cells #[.int .i64 0] 3)).alloc (.cells #[.string t, .int .i64 1, .string d, .int .i64 3] 152)).alloc (.cells #[.string t, .int .i64 1] 152) := ⟨_, rfl⟩
    have sB1 : Same (fun _ => False) W8 B1 := by rw [hB1]; exact ((same_alloc _).alloc _).alloc _
    have zB1 : B1.heap.size = W8.heap.size + 3 := by rw [hB1]; simp
    have pb1 : B1.cell? ⟨W8.heap.size, 0, none⟩ = some (.int .i64 0) := by rw [hB1]; simp [go_sem]
    have pz1 : B1.frozen? ⟨W8.heap.size, 0, none⟩ = false := by rw [hB1]; simp [go_sem]
    have ps1 : B1.shape? W8.heap.size = some (3, 1) := by rw [hB1]; simp only [shape_alloc, World.size_alloc]; rw [if_neg (by omega), if_neg (by omega)]; rfl
    have xc1 : B1.cell? ⟨W8.heap.size + 1 + 1, 1, none⟩ = some (.int .i64 1) := by rw [hB1]; simp [go_sem]
    have xs1 : B1.shape? (W8.heap.size + 1 + 1) = some (152, 2) := by rw [hB1]; simp only [shape_alloc, World.size_alloc]; rfl
    have ys2 : B1.cell? ⟨W8.heap.size + 1, 2, none⟩ = some (.string d) := by rw [hB1]; simp [go_sem]
    have ys3 : B1.cell? ⟨W8.heap.size + 1, 3, none⟩ = some (.int .i64 3) := by rw [hB1]; simp [go_sem]
    have yss : B1.shape? (W8.heap.size + 1) = some (152, 4) := by rw [hB1]; simp only [shape_alloc, World.size_alloc]; rw [if_neg (by omega)]; rfl
    have wvB := sB1.cell wv8 (by simp)
    have feB := sB1.cell fe8 (by simp)
    have fezB := sB1.unfrozen fe8 fez8 (by simp)
    have hst1 : B1.shape? w1.heap.size = some (144, 1) ∧ B1.shape? (w.heap.size + 1) = some (25, 1) ∧ B1.shape? w.heap.size = some (75, 5) ∧ B1.shape? sb = some (75, 5) := by
      obtain ⟨F8, sh8, s78, hN0, sh8a, shv8⟩ := HS8.out
      obtain ⟨-, -, -, -, -, s0, s1⟩ := H.out
      exact ⟨(sB1.shp _ (by omega)).trans shv8, (sB1.shp _ (by omega)).trans ((sh8a _ (by omega)).trans s1), (sB1.shp _ (by omega)).trans ((sh8a _ (by omega)).trans s0), (sB1.shp _ hsb8).trans sh8⟩
    have HB1 := Lib.hid (And.intro hB1 (And.intro sB1 (And.intro zB1 (And.intro ps1 (And.intro xs1 (And.intro yss hst1))))))
    clear hst1 ps1 xs1 yss sB1 wv8 fe8 fez8 zB1
    go_wp2_with fail
    rw [← hB1]
    clear hB1
    refine (leaves_any B1 t).mono ?_
    rintro e V1 ⟨rfl, hV1⟩
    have wvV0 := wvB
    have xc0 := xc1
    have sV1 : Same (fun _ => False) B1 V1 := by rw [hV1]; exact same_alloc _
    have zV1 : V1.heap.size = B1.heap.size + 1 := by rw [hV1]; simp
    have sx1 : Sx V1 B1.heap.size t := by rw [hV1]; exact ⟨by simp, by simp [go_sem]⟩
    have pV1 := sV1.cell pb1 (by simp)
    have pzV1 := sV1.unfrozen pb1 pz1 (by simp)
    have xV1 := sV1.cell xc1 (by simp)
    have wvV1 := sV1.cell wvB (by simp)
    have feV1 := sV1.cell feB (by simp)
    have fezV1 := sV1.unfrozen feB fezB (by simp)
    have vsh1 : V1.shape? B1.heap.size = some (9, 1) := by rw [hV1, shape_alloc]; simp
    have HV1 := Lib.hid (And.intro sV1 (And.intro zV1 (And.intro sx1 vsh1)))
    clear hV1 sV1 zV1 vsh1 sx1 pb1 pz1 xc1 wvB feB fezB
    go_wp2
    refine (wpIn_wide (n := 0)).1 ?_
    refine range_wide2 (gf := 112) (lb := #[.pointer (some ⟨B1.heap.size, 0, none⟩)]) rfl (enters_of Try.func112 (by kernel_rfl) rfl) ?_
    intro rec D L X1 hD hL hrule hsX hl1 hd1 hrec
    obtain ⟨sV1, zV1, sx1, vsh1⟩ := HV1.out
    obtain ⟨hB1, sB1, zB1, ps1, xs1, yss, hs1a, hs1b, hs1c, hs1d⟩ := HB1.out
    obtain ⟨F8, sh8, s78, hN0, sh8a, shv8⟩ := HS8.out
    obtain ⟨hsb, hz7⟩ := HXB.out
    have sBX : Same (fun _ => False) B1 X1 := sV1.trans hsX
    have s8X : Same (fun _ => False) W8 X1 := sB1.trans sBX
    obtain ⟨hMX, hWX, hRX⟩ := hN0 _ s8X
    have hzX := sBX.size
    have hLX := (Array.getElem?_eq_some_iff.1 hl1).1
    have hDX := (Array.getElem?_eq_some_iff.1 hd1).1
    have hwkX := hWX.lt
    have hwkb := hWX.hb
    have shX : ∀ b, b < B1.heap.size → X1.shape? b = B1.shape? b := fun b hb => sBX.shp b hb
    have hsafe : ∀ b, b = W8.heap.size ∨ b = w.heap.size + 1 ∨ b = w1.heap.size ∨ b = W8.heap.size + 1 + 1 ∨ b = w.heap.size ∨ b = W8.heap.size + 1 ∨ b = sb → (∃ t n, B1.shape? b = some (t, n) ∧ t ≠ 1) ∧ b ≠ fb ∧ b ≠ wk ∧ b < B1.heap.size := fun b hb => by
      have hwkne : ∀ t n, B1.shape? b = some (t, n) → t ≠ 151 → b ≠ wk := fun t n h ht e => by
        have h2 := hWX.sh
        by_cases hlt9 : wk < B1.heap.size
        · rw [← e] at h2
          rw [shX b (by rw [e]; exact hlt9), h] at h2
          cases h2
          exact ht rfl
        · rw [e] at h
          have : B1.shape? wk = none := by unfold World.shape?; rw [Array.getElem?_eq_none (by omega)]
          rw [this] at h; cases h
      rcases hb with rfl | rfl | rfl | rfl | rfl | rfl | rfl
      · exact ⟨⟨_, _, ps1, by simp⟩, by omega, hwkne _ _ ps1 (by simp), by omega⟩
      · exact ⟨⟨_, _, hs1b, by simp⟩, by omega, hwkne _ _ hs1b (by simp), by omega⟩
      · exact ⟨⟨_, _, hs1a, by simp⟩, by omega, hwkne _ _ hs1a (by simp), by omega⟩
      · exact ⟨⟨_, _, xs1, by simp⟩, by omega, hwkne _ _ xs1 (by simp), by omega⟩
      · exact ⟨⟨_, _, hs1c, by simp⟩, by omega, hwkne _ _ hs1c (by simp), by omega⟩
      · exact ⟨⟨_, _, yss, by simp⟩, by omega, hwkne _ _ yss (by simp), by omega⟩
      · exact ⟨⟨_, _, hs1d, by simp⟩, by omega, hwkne _ _ hs1d (by simp), by omega⟩
    have hstp : ∀ W W', Same (Sq fb wk w.heap.size (w.heap.size + 1) W8.heap.size B1.heap.size X1) X1 W → Same (Wf fb w.heap.size wk W) W W' → Same (Sq fb wk w.heap.size (w.heap.size + 1) W8.heap.size B1.heap.size X1) X1 W' := fun W W' h g => sq_wf h g
    have hnw : ∀ b, b = W8.heap.size ∨ b = w.heap.size + 1 ∨ b = w1.heap.size ∨ b = W8.heap.size + 1 + 1 ∨ b = w.heap.size ∨ b = W8.heap.size + 1 ∨ b = sb → ∀ W, Same (Sq fb wk w.heap.size (w.heap.size + 1) W8.heap.size B1.heap.size X1) X1 W → ¬ Wf fb w.heap.size wk W b := fun b hb W h => by
      obtain ⟨⟨t', n', g1, g2⟩, g3, g4, g5⟩ := hsafe b hb
      exact wf_free ((h.shp b (by omega)).trans ((shX b g5).trans g1)) g3 g4 g2
    have hnq : ∀ b, b = w1.heap.size ∨ b = W8.heap.size + 1 + 1 ∨ b = w.heap.size ∨ b = W8.heap.size + 1 ∨ b = sb → ¬ Sq fb wk w.heap.size (w.heap.size + 1) W8.heap.size B1.heap.size X1 b := fun b hb => by
      obtain ⟨⟨t', n', g1, g2⟩, g3, g4, g5⟩ := hsafe b (by omega)
      rintro (h | h | ⟨-, m, h⟩ | h | h | h)
      · exact g3 h
      · exact g4 h
      · rw [shX b g5, g1] at h; cases h; exact g2 rfl
      · omega
      · omega
      · omega
    have hWX2 := ((hN0 W8 (Same.refl _ _)).2.1.less (Y := fun x => x < A.heap.size ∨ x = W8.heap.size) (fun x hx hlx => by omega)).same0 s8X
    have hshb : X1.shape? B1.heap.size = some (9, 1) := (hsX.shp _ (by omega)).trans vsh1
    obtain ⟨I1, HI1⟩ : ∃ I : ByteArray → World → Prop, Hid (∀ s W, I s W ↔ (∃ (N : Mm) (U : List Und) (p : Nat), MemAt W f fb N ∧ WorkAt W w.heap.size wk f k (fun x => x < A.heap.size ∨ x = W8.heap.size) U ∧ U.length = p + 1 ∧ p + s.size ≤ 255 ∧ p + (leavesL s).length = (leavesL t).length ∧
        Mm.fillU k M1 [.root] (imgItems t d) = Mm.fillU k N U (itemsL p 1 (leavesL s) ++ (itemsL ((leavesL t).length : Int) 3 (leavesL d) ++ stackL)) ∧
        W.cell? ⟨W8.heap.size, 0, none⟩ = some (.int .i64 p) ∧ W.frozen? ⟨W8.heap.size, 0, none⟩ = false ∧ W.cell? ⟨w.heap.size + 1, 0, none⟩ = some (.int .i64 0) ∧ W.frozen? ⟨w.heap.size + 1, 0, none⟩ = false ∧
        Same (Sq fb wk w.heap.size (w.heap.size + 1) W8.heap.size B1.heap.size X1) X1 W ∧ W.heap[L]? = some (rec .ready none) ∧ W.heap[D]? = some (.deferred (some [])))) := ⟨_, Lib.hid fun s W => Iff.rfl⟩
    obtain ⟨J1, HJ1⟩ : ∃ J : World → Prop, Hid (∀ W, J W ↔ (∃ (N : Mm) (U : List Und), MemAt W f fb N ∧ WorkAt W w.heap.size wk f k (fun x => x < A.heap.size ∨ x = W8.heap.size) U ∧ U.length ≤ 600 ∧ R = (N.undo k U.reverse, (k : Int), 11) ∧ W.cell? ⟨w.heap.size + 1, 0, none⟩ = some (.int .i64 11) ∧ Five W w.heap.size (.int .i64 0) (.int .i64 0) (.int .i64 0) (.int .i64 0) (.slice none 0 0) ∧
        Same (fun b => b = fb ∨ w.heap.size ≤ b) X1 W ∧ W.heap[L]? = some (rec .done (some .ret)) ∧ W.heap[D]? = some (.deferred (some [])))) := ⟨_, Lib.hid fun W => Iff.rfl⟩
    refine Calls.mono (leaves1 L B1.heap.size I1 J1
      ?_ ?_ X1 t (by omega) ((HI1.out _ _).2 ⟨M1, [.root], 0, hMX, hWX2, rfl, by omega, by omega, rfl, hsX.cell pV1 (by simp), hsX.unfrozen pV1 pzV1 (by simp), hsX.cell feV1 (by simp), hsX.unfrozen feV1 fezV1 (by simp), Same.refl _ _, hl1, hd1⟩) (sx1.same hsX (by simp))) ?_
    · rintro s W W' hI hs
      obtain ⟨N, U, p, i1, i2, i3, i4, i5, i6, i7, i8, i9, i10, i11, i12, i13⟩ := (HI1.out _ _).1 hI
      have hzW := i11.size
      have sh : W.shape? B1.heap.size = some (9, 1) := (i11.shp _ (by omega)).trans hshb
      exact (HI1.out _ _).2 ⟨N, U, p, i1.same hs (by omega) (by omega), i2.same hs (fun b hb => by subst hb; exact free_shape sh (by simp)), i3, i4, i5, i6, hs.cell i7 (by simp; omega), hs.unfrozen i7 i8 (by simp; omega), hs.cell i9 (by simp; omega), hs.unfrozen i9 i10 (by simp; omega),
        i11.trans' (hs.mono (T := Sq fb wk w.heap.size (w.heap.size + 1) W8.heap.size B1.heap.size X1) (fun b _ e => .inr (.inr (.inr (.inr (.inr (by omega))))))) (fun b h _ => h), hs.block i12 (by omega), hs.block i13 (by omega)⟩
    · rintro s W hs0 hsz hSx hI
      obtain ⟨N, U, p, i1, i2, i3, i4, i5, i6, i7, i8, i9, i10, i11, i12, i13⟩ := (HI1.out _ _).1 hI
      clear hI
      have hzW := i11.size
      have hwvW := i11.cell (sBX.cell wvV0 (by simp)) (hnq _ (.inl rfl))
      have hxcW := i11.cell (sBX.cell xc0 (by simp)) (hnq _ (.inr (.inl rfl)))
      have hlkp : lk s ≤ s.size ∧ 0 < lk s ∧ lk s ≤ 64 := by unfold lk; omega
      rw [leavesL_step hs0] at i5 i6
      simp only [itemsL, List.cons_append, Mm.fillU] at i6
      have hs1z : (s.extract 0 (lk s)).size ≤ 64 := by rw [ByteArray.size_extract]; omega
      obtain ⟨s1, hs1⟩ : ∃ s1, s1 = s.extract 0 (lk s) := ⟨_, rfl⟩
      rw [← hs1] at i6 hs1z ⊢
      have hLW := (Array.getElem?_eq_some_iff.1 i12).1
      have hDW := (Array.getElem?_eq_some_iff.1 i13).1
      have hLn : ∀ b t n, W.shape? b = some (t, n) → b ≠ L := fun b t n h e => by
        have := shape_none i12 (by obtain ⟨r, hr⟩ := hrec .ready none; rw [hr]; rfl)
        rw [e, this] at h; cases h
      have hLq : ∀ b, b = L → Sq fb wk w.heap.size (w.heap.size + 1) W8.heap.size B1.heap.size X1 b := fun b e => .inr (.inr (.inr (.inr (.inr (by omega)))))
      have hwkL : wk ≠ L := hLn wk 151 3 i2.sh
      have HIN := Lib.hid (And.intro i1 (And.intro i2 (And.intro i3 (And.intro i4 (And.intro i5 (And.intro i6 (And.intro i11 (And.intro hSx (And.intro @hLn @hstp)))))))))
      have HNW := Lib.hid @hnw
      have HNQ := Lib.hid @hnq
      have HID13 := Lib.hid i13
      have HSH4 := Lib.hid (And.intro hs1b ps1)
      have HSH5 := Lib.hid hs1c
      have HSHB := Lib.hid (And.intro hshb shX)
      have HRX := Lib.hid (And.intro hRX (And.intro s8X (And.intro s78 hwkb)))
      have HSF := Lib.hid @hsafe
      have HLW := Lib.hid (And.intro hLW hDW)
      have HNUM := Lib.hid (And.intro zB1 (And.intro zV1 (And.intro hz8 (And.intro hz7 hsb))))
      clear hLW hDW
      clear hstp hnw hnq hsafe hLn hSx i1 i2 i4 i5 i6 i11 hN0 hs1 F8 sh8 s78 sh8a shv8 hMX hWX hRX hWX2 hsX sx1 sV1 sB1 hB1 ps1 xs1 yss hs1a hs1b hs1c hs1d vsh1 hshb shX s8X sBX pV1 pzV1 feV1 fezV1 xV1 wvV1 zB1 zV1 hd1 hl1 ys2 ys3 hsb hz7 hz8
      refine hrule W _ _ i12 rfl ?_
      gi_wp2
      intro W2 hs2 hz2 hl2
      obtain ⟨hLW, hDW⟩ := HLW.out
      obtain ⟨zB1, zV1, hz8, hz7, hsb⟩ := HNUM.out
      obtain ⟨i1, i2, i3', i4, i5, i6, i11, hSx, hLn, hstp⟩ := HIN.out
      have hM2 := i1.same hs2 (by omega) (by omega)
      have hW2 := i2.same hs2 (fun b hb => .inr fun t' m h => by exact ((hLn b t' m h) hb).elim)
      have s12 : Same (Sq fb wk w.heap.size (w.heap.size + 1) W8.heap.size B1.heap.size X1) X1 W2 := i11.trans' (hs2.mono (T := Sq fb wk w.heap.size (w.heap.size + 1) W8.heap.size B1.heap.size X1) (fun b _ e => hLq b e)) (fun b h _ => h)
      have j7 := hs2.cell i7 (by simp; omega)
      have j8 := hs2.unfrozen i7 i8 (by simp; omega)
      have j9 := hs2.cell i9 (by simp; omega)
      have j10 := hs2.unfrozen i9 i10 (by simp; omega)
      have j13 := hs2.block i13 (by omega)
      have jwv := hs2.cell hwvW (by simp; omega)
      have jxc := hs2.cell hxcW (by simp; omega)
      have jSx := hSx.same hs2 (by omega)
      have hzW2 := s12.size
      have hfa := filled_any hM2 hW2 (fun x hx => by omega) (by omega) (p : Int) 1 s1 (by constructor <;> omega) hs1z (N.fresh_used k p 1)
      obtain ⟨⟨M4, er⟩, hFI⟩ : ∃ y, y = N.filled k p 1 s1 := ⟨_, rfl⟩
      rw [← hFI] at hfa i6
      simp only at hfa i6
      have he11 : er = 0 ∨ er = 11 := by have := N.filled_err k p 1 s1; rw [← hFI] at this; exact this
      have n7 := HNW.out W8.heap.size (.inl rfl) W2 s12
      have n9 := HNW.out (w.heap.size + 1) (.inr (.inl rfl)) W2 s12
      have nwv := HNW.out w1.heap.size (.inr (.inr (.inl rfl))) W2 s12
      have HJ := Lib.hid (And.intro i6 (And.intro s12 (And.intro j13 (And.intro jSx (And.intro n7 (And.intro n9 nwv))))))
      clear i1 i2 i3' i4 i5 i6 i11 hSx hLn hstp hM2 hW2 s12 i7 i8 i9 i10 i12 i13 hwvW hxcW j13 jSx n7 n9 nwv hFI hs2 hLW hDW zB1 zV1 hz8 hz7 hsb
      gi_wp2_with fail
      refine CallsIn.mono (CallsIn.inRound L (callsIn_wide.2 hfa)) ?_
      rintro e W4 ⟨rfl, hM4, hW4, hs4⟩
      obtain ⟨i6, s12, j13, jSx, n7, n9, nwv⟩ := HJ.out
      obtain ⟨hLW, hDW⟩ := HLW.out
      obtain ⟨zB1, zV1, hz8, hz7, hsb⟩ := HNUM.out
      have k7 := hs4.cell j7 n7
      have k8 := hs4.unfrozen j7 j8 n7
      have k9 := hs4.cell j9 n9
      have k10 := hs4.unfrozen j9 j10 n9
      have hzW4 := hs4.size
      have hnL4 : ∀ b, b = L ∨ b = D ∨ b = B1.heap.size → ¬ Wf fb w.heap.size wk W2 b := fun b hb => by
        have hsL : ∀ t m, W2.shape? L = some (t, m) → False := fun t m h => by
          have := shape_none hl2 (by obtain ⟨r, hr⟩ := hrec .busy none; rw [hr]; rfl)
          rw [this] at h; cases h
        have hsD : ∀ t m, W2.shape? D = some (t, m) → False := fun t m h => by
          have := shape_none j13 rfl
          rw [this] at h; cases h
        have hwkL9 : wk ≠ L ∧ wk ≠ D := by
          have h2 := HIN.out.2.1.sh
          have hss := (HSHB.out.2 wk)
          refine ⟨hwkL, fun e => ?_⟩
          have := shape_none (HID13.out) (rfl)
          rw [← e, h2] at this; cases this
        rcases hb with rfl | rfl | rfl
        · rintro (h | h | ⟨-, m, h⟩)
          · omega
          · exact hwkL h.symm
          · exact hsL _ _ h
        · rintro (h | h | ⟨-, m, h⟩)
          · omega
          · exact hwkL9.2 h.symm
          · exact hsD _ _ h
        · refine wf_free ((s12.shp _ (by omega)).trans HSHB.out.1) (by omega) (fun e => ?_) (by simp)
          have h2 := HIN.out.2.1.sh
          rw [← e, (HIN.out.2.2.2.2.2.2.1.shp _ (by omega)), HSHB.out.1] at h2
          cases h2
      have k12 := hs4.block hl2 (hnL4 L (.inl rfl))
      have k13 := hs4.block j13 (hnL4 D (.inr (.inl rfl)))
      have kSx := jSx.same hs4 (hnL4 _ (.inr (.inr rfl)))
      have s14 := HIN.out.2.2.2.2.2.2.2.2.2 _ _ s12 hs4
      have shL4 : ∀ b t m, W4.shape? b = some (t, m) → b ≠ L := fun b t m h e => by
        have := shape_none k12 (by obtain ⟨r, hr⟩ := hrec .busy none; rw [hr]; rfl)
        rw [e, this] at h; cases h
      have hpe : ¬ W8.heap.size = w.heap.size + 1 := by omega
      have hep : ¬ w.heap.size + 1 = W8.heap.size := by omega
      have hp255 : p ≤ 255 := by have := HIN.out.2.2.2.1; omega
      have HK := Lib.hid (And.intro hM4 (And.intro hW4 (And.intro s14 (And.intro k13 (And.intro kSx @shL4)))))
      clear hfa hs4 hnL4 s12 j13 jSx n7 n9 nwv j7 j8 j9 j10 jwv jxc hM4 hW4 s14 k13 kSx shL4 hLW hDW zB1 zV1 hz8 hz7 hsb hl2
      rcases he11 with rfl | rfl
      · simp only [if_true] at i6
        have HI6 := Lib.hid i6
        clear i6
        gi_wp2
        obtain ⟨zB1, zV1, hz8, hz7, hsb⟩ := HNUM.out
        obtain ⟨hLW, hDW⟩ := HLW.out
        obtain ⟨W6, hW6⟩ : ∃ W6, W6 = (W4.setCell ⟨w.heap.size + 1, 0, none⟩ (.int .i64 0)).setCell ⟨W8.heap.size, 0, none⟩ (.int .i64 ((p : Int) + 1)) := ⟨_, rfl⟩
        rw [← hW6]
        have s46 : Same (fun b => b = w.heap.size + 1 ∨ b = W8.heap.size) W4 W6 := by rw [hW6]; exact ((Same.refl (fun b => b = w.heap.size + 1 ∨ b = W8.heap.size) W4).setCell _ (.inr (.inl rfl))).setCell _ (.inr (.inr rfl))
        have m7 : W6.cell? ⟨W8.heap.size, 0, none⟩ = some (.int .i64 ((p + 1 : Nat) : Int)) := by
          rw [hW6, World.cell?_setCell_same _ _ _ (by rw [World.cell?_setCell_other _ _ _ _ (by simp; try omega)]; exact k7)]
          rfl
        have m8 : W6.frozen? ⟨W8.heap.size, 0, none⟩ = false := by rw [hW6]; simp only [World.frozen?_setCell]; exact k8
        have m9 : W6.cell? ⟨w.heap.size + 1, 0, none⟩ = some (.int .i64 0) := by
          rw [hW6, World.cell?_setCell_other _ _ _ _ (by simp; try omega)]; exact World.cell?_setCell_same _ _ _ k9
        have m10 : W6.frozen? ⟨w.heap.size + 1, 0, none⟩ = false := by rw [hW6]; simp only [World.frozen?_setCell]; exact k10
        obtain ⟨hM4, hW4, s14, k13, kSx, shL4⟩ := HK.out
        have sh4 : ∀ b, b < B1.heap.size → W4.shape? b = B1.shape? b := fun b hb => (s14.shp b (by omega)).trans (HSHB.out.2 b hb)
        obtain ⟨⟨tp, mp, gp1, gp2⟩, gp3, gp4, gp5⟩ := HSF.out W8.heap.size (.inl rfl)
        have hM6 := hM4.same s46 (by omega) (by omega)
        have hW6w : WorkAt W6 w.heap.size wk f k (fun x => x < A.heap.size ∨ x = W8.heap.size) (U ++ [.page p]) := WorkAt.same (by simpa [pushed] using hW4) s46 (fun b hb => by
          rcases hb with rfl | rfl
          · exact free_shape ((sh4 _ (by omega)).trans HSH4.out.1) (by simp)
          · exact .inl ⟨.inr rfl, fun m h => (by rw [sh4 _ gp5, HSH4.out.2] at h; cases h), fun m h => (by rw [sh4 _ gp5, HSH4.out.2] at h; cases h)⟩)
        have m12 := s46.block k12 (by omega)
        have m13 := s46.block k13 (by omega)
        have mSx := kSx.same s46 (by omega)
        have s16 : Same (Sq fb wk w.heap.size (w.heap.size + 1) W8.heap.size B1.heap.size X1) X1 W6 := s14.trans' (s46.mono (T := Sq fb wk w.heap.size (w.heap.size + 1) W8.heap.size B1.heap.size X1) (fun b _ hb => by
          rcases hb with hb | hb
          · exact .inr (.inr (.inr (.inl hb)))
          · exact .inr (.inr (.inr (.inr (.inl hb)))))) (fun b h _ => h)
        obtain ⟨i1, i2, i3', i4, i5, -, i11, -, -, -⟩ := HIN.out
        refine ⟨m12, fun W9 hs9 hz9 hl9 => .inl ⟨rfl, mSx.same hs9 (by omega), (HI1.out _ _).2 ⟨M4, U ++ [.page p], p + 1, hM6.same hs9 (by omega) (by omega), hW6w.same hs9 (fun b hb => ?_), by rw [List.length_append, List.length_singleton, i3], ?_, ?_, ?_, hs9.cell m7 (by simp; omega), hs9.unfrozen m7 m8 (by simp; omega), hs9.cell m9 (by simp; omega), hs9.unfrozen m9 m10 (by simp; omega), s16.trans' (hs9.mono (T := Sq fb wk w.heap.size (w.heap.size + 1) W8.heap.size B1.heap.size X1) (fun b _ e => .inr (.inr (.inr (.inr (.inr (by omega))))))) (fun b h _ => h), hl9, hs9.block m13 (by omega)⟩⟩⟩
        · refine .inr fun t' m h => ?_
          rw [s46.shp b (by omega)] at h
          exact (shL4 b t' m h hb).elim
        · rw [size_rest s _ hlkp.1]; omega
        · rw [List.length_cons] at i5; omega
        · exact HI6.out
      · simp only [Int.reduceEq, if_false] at i6
        have HI6 := Lib.hid i6
        clear i6
        obtain ⟨zB1, zV1, hz8, hz7, hsb⟩ := HNUM.out
        obtain ⟨hLW, hDW⟩ := HLW.out
        obtain ⟨hM4, hW4, s14, k13, kSx, shL4⟩ := HK.out
        obtain ⟨hRX, s8X, s78, hwkb⟩ := HRX.out
        have R4 := hRX.same s14 (HNQ.out w.heap.size (.inr (.inr (.inl rfl))))
        obtain ⟨W5, hW5⟩ : ∃ W5, W5 = W4.setCell ⟨w.heap.size + 1, 0, none⟩ (.int .i64 11) := ⟨_, rfl⟩
        have hsE : Same (· = w.heap.size + 1) W4 W5 := by rw [hW5]; exact (Same.refl _ _).setCell _ (.inr rfl)
        obtain ⟨f0, f1, f2, f3, f4, ff⟩ := R4.same hsE (by omega)
        have ff0 := ff 0
        have ff1 := ff 1
        have ff2 := ff 2
        have ff3 := ff 3
        have ff4 := ff 4
        have fe : W5.cell? ⟨w.heap.size + 1, 0, none⟩ = some (.int .i64 11) := by rw [hW5]; exact World.cell?_setCell_same _ _ _ k9
        have fez : W5.frozen? ⟨w.heap.size + 1, 0, none⟩ = false := by rw [hW5, World.frozen?_setCell]; exact k10
        have k12' := hsE.block k12 (by omega)
        have HZ := Lib.hid (And.intro hW5 (And.intro hsE k12'))
        clear ff hsE R4 hRX s8X s78 hwkb hM4 hW4 s14 k13 kSx shL4 zB1 zV1 hz8 hz7 hsb hLW hDW k7 k8 k12 k12'
        gi_wp2
        rw [← HZ.out.1]
        clear hW5 k9 k10
        obtain ⟨W6, hW6⟩ : ∃ W6, W6 = ((((((W5.setCell ⟨w.heap.size, 0, none⟩ (.int .i64 0)).setCell ⟨w.heap.size, 1, none⟩ (.int .i64 0)).setCell ⟨w.heap.size, 2, none⟩ (.int .i64 0)).setCell ⟨w.heap.size, 3, none⟩ (.int .i64 0)).setCell ⟨w.heap.size, 4, none⟩ (.slice none 0 0)).setCell ⟨w.heap.size + 1, 0, none⟩ (.int .i64 11)).drew := ⟨_, rfl⟩
        have HW6 := Lib.hid hW6
        clear hW6
        apply wpIn_to (X := W6)
        case h1 =>
          gi_region
          all_goals exact ⟨rfl, rfl, HW6.out.symm⟩
        obtain ⟨⟨g0, g1, g2, g3, g4⟩, fe6, s56⟩ := put5e HW6.out f0 f1 f2 f3 f4 fe (by omega)
        have k12'' := s56.block HZ.out.2.2 (by obtain ⟨zB1, zV1, hz8, hz7, hsb⟩ := HNUM.out; omega)
        have HG := Lib.hid (And.intro (And.intro g0 (And.intro g1 (And.intro g2 (And.intro g3 g4)))) (And.intro fe6 (And.intro s56 k12'')))
        clear f0 f1 f2 f3 f4 fe ff0 ff1 ff2 ff3 ff4 fez g0 g1 g2 g3 g4 fe6 s56 k12''
        gi_wp2
        obtain ⟨⟨g0, g1, g2, g3, g4⟩, fe6, s56, k12''⟩ := HG.out
        obtain ⟨-, hsE, -⟩ := HZ.out
        obtain ⟨hM4, hW4, s14, k13, kSx, shL4⟩ := HK.out
        obtain ⟨zB1, zV1, hz8, hz7, hsb⟩ := HNUM.out
        obtain ⟨hLW, hDW⟩ := HLW.out
        obtain ⟨hRX, s8X, s78, hwkb⟩ := HRX.out
        have s46 : Same (fun b => b = w.heap.size + 1 ∨ b = w.heap.size) W4 W6 := (hsE.mono (fun _ _ h => .inl h)).trans s56
        have sh4 : ∀ b, b < B1.heap.size → W4.shape? b = B1.shape? b := fun b hb => (s14.shp b (by omega)).trans (HSHB.out.2 b hb)
        have hM6 := hM4.same s46 (by omega) (by omega)
        have hW6w : WorkAt W6 w.heap.size wk f k (fun x => x < A.heap.size ∨ x = W8.heap.size) U := WorkAt.same (by simpa [pushed] using hW4) s46 (fun b hb => by
          rcases hb with rfl | rfl
          · exact free_shape ((sh4 _ (by omega)).trans HSH4.out.1) (by simp)
          · obtain ⟨⟨tp, mp, gp1, gp2⟩, gp3, gp4, gp5⟩ := HSF.out w.heap.size (.inr (.inr (.inr (.inr (.inl rfl)))))
            exact free_shape ((sh4 _ gp5).trans HSH5.out) (by simp))
        have hgf : ∀ o, W6.frozen? ⟨w.heap.size, o, none⟩ = false := fun o => by
          obtain ⟨q0, q1, q2, q3, q4, qf⟩ := hRX.same s14 (HNQ.out w.heap.size (.inr (.inr (.inl rfl))))
          exact put5e_fz HW6.out o ((hsE.frozen (a := ⟨w.heap.size, o, none⟩) (by show w.heap.size < _; omega) (by simp)).trans (qf o))
        have k13' := s46.block k13 (by omega)
        have sWq : Same (fun b => b = fb ∨ w.heap.size ≤ b) X1 W6 := (s14.mono (T := fun b => b = fb ∨ w.heap.size ≤ b) (fun b _ hb => by
          rcases hb with h | h | ⟨h, -⟩ | h | h | h
          · exact .inl h
          · exact .inr (by omega)
          · exact .inr h
          · exact .inr (by omega)
          · exact .inr (by omega)
          · exact .inr (by omega))).trans (s46.mono (T := fun b => b = fb ∨ w.heap.size ≤ b) (fun b _ h => by omega))
        have shL6 : ∀ b t m, W6.shape? b = some (t, m) → b ≠ L := fun b t m h e => by
          have := shape_none k12'' (by obtain ⟨r, hr⟩ := hrec .busy none; rw [hr]; rfl)
          rw [e, this] at h; cases h
        refine ⟨k12'', fun W9 hs9 hz9 hl9 => .inr ⟨rfl, (HJ1.out _).2 ⟨M4, U, hM6.same hs9 (by omega) (by omega), hW6w.same hs9 (fun b hb => .inr fun t' m h => (shL6 b t' m h hb).elim), by omega, ?_, hs9.cell fe6 (by simp; omega), (⟨g0, g1, g2, g3, g4, hgf⟩ : Five W6 w.heap.size _ _ _ _ _).same hs9 (by omega), sWq.trans (hs9.mono (T := fun b => b = fb ∨ w.heap.size ≤ b) (fun b _ e => .inr (by omega))), hl9, hs9.block k13' (by omega)⟩⟩⟩
        have hR2 := HX.out.1
        rw [HI6.out] at hR2
        rw [hR2]
    · have wvB0 := wvV0
      have HFIN := Lib.hid (And.intro zB1 (And.intro zV1 (And.intro hz8 (And.intro hz7 (And.intro hsb (And.intro hRX (And.intro s8X (And.intro s78 (And.intro hwkb (And.intro hs1b (And.intro hs1c (And.intro ps1 (And.intro @hsafe @shX)))))))))))))
      have HNQ := Lib.hid @hnq
      have HYS := Lib.hid (And.intro ys2 ys3)
      have HSB := Lib.hid (And.intro sBX hzX)
      clear hstp hnw hnq hsafe hN0 F8 sh8 s78 sh8a shv8 hMX hWX hRX hWX2 hsX sx1 sV1 sB1 hB1 ps1 xs1 yss hs1a hs1b hs1c hs1d vsh1 hshb shX s8X sBX pV1 pzV1 feV1 fezV1 xV1 wvV1 zB1 zV1 hd1 hl1 ys2 ys3 hsb hz7 hz8 wvV0 xc0 hrule
      rintro e W ⟨⟨v, rfl⟩, ⟨s, hs0, hI⟩ | hJ⟩
      · obtain ⟨N0, U0, p0, i1, i2, u3, i4, i5, i6, i7, i8, i9, i10, i11, i12, i13⟩ := (HI1.out _ _).1 hI
        rw [leavesL_zero hs0] at i5 i6
        simp only [itemsL, List.nil_append, List.length_nil, Nat.add_zero] at i5 i6
        refine ⟨⟨_, rfl⟩, .inl ⟨i12, fun Y8 hs2 hzq => ?_⟩⟩
        have hLW := (Array.getElem?_eq_some_iff.1 i12).1
        have hDW := (Array.getElem?_eq_some_iff.1 i13).1
        have hLn : ∀ b t n, W.shape? b = some (t, n) → b ≠ L := fun b t n h e => by
          have := shape_none i12 (by obtain ⟨r, hr⟩ := hrec .ready none; rw [hr]; rfl)
          rw [e, this] at h; cases h
        obtain ⟨zB1, zV1, hz8, hz7, hsb, hRX, s8X, s78, hwkb, hs1b, hs1c, ps1, hsafe, shX⟩ := HFIN.out
        obtain ⟨sBX, hzX⟩ := HSB.out
        have sY : Same (Sq fb wk w.heap.size (w.heap.size + 1) W8.heap.size B1.heap.size X1) X1 Y8 := i11.trans' (hs2.mono (T := Sq fb wk w.heap.size (w.heap.size + 1) W8.heap.size B1.heap.size X1) (fun b _ e => .inr (.inr (.inr (.inr (.inr (by omega))))))) (fun b h _ => h)
        have hzY := sY.size
        have g1 := i1.same hs2 (by omega) (by omega)
        have g2 := i2.same hs2 (fun b hb => .inr fun t' m h => (hLn b t' m h hb).elim)
        have g7 := hs2.cell i7 (by simp; omega)
        have g8 := hs2.unfrozen i7 i8 (by simp; omega)
        have g9 := hs2.cell i9 (by simp; omega)
        have g10 := hs2.unfrozen i9 i10 (by simp; omega)
        have g13 := hs2.block i13 (by omega)
        have u6 : Mm.fillU k M1 [.root] (imgItems t d) = Mm.fillU k N0 U0 (itemsL p0 3 (leavesL d) ++ stackL) := by rw [i6, i5]
        have wvY := sY.cell (sBX.cell wvB0 (by simp)) (HNQ.out _ (.inl rfl))
        have yY2 := sY.cell (sBX.cell HYS.out.1 (by simp)) (HNQ.out _ (.inr (.inr (.inr (.inl rfl)))))
        have yY3 := sY.cell (sBX.cell HYS.out.2 (by simp)) (HNQ.out _ (.inr (.inr (.inr (.inl rfl)))))
        have RY := hRX.same sY (HNQ.out w.heap.size (.inr (.inr (.inl rfl))))
        have FY := (HS8.out.1.same s8X (by simp)).same sY (HNQ.out sb (.inr (.inr (.inr (.inr rfl)))))
        have shY : ∀ b, b < B1.heap.size → Y8.shape? b = B1.shape? b := fun b hb => (sY.shp b (by omega)).trans (shX b hb)
        have hst1 : Y8.shape? W8.heap.size = some (3, 1) ∧ Y8.shape? w1.heap.size = some (144, 1) ∧ Y8.shape? (w.heap.size + 1) = some (25, 1) ∧ Y8.shape? w.heap.size = some (75, 5) ∧ Y8.shape? (W8.heap.size + 1) = some (152, 4) ∧ Y8.shape? sb = some (75, 5) := by
          obtain ⟨hB1, sB1, -, qs1, xs1, yss, hs1a, hs1b, hs1c, hs1d⟩ := HB1.out
          exact ⟨(shY _ (by omega)).trans qs1, (shY _ (by omega)).trans hs1a, (shY _ (by omega)).trans hs1b, (shY _ (by omega)).trans hs1c, (shY _ (by omega)).trans yss, (shY _ (by omega)).trans hs1d⟩
        have hN0 : ∀ W9 : World, Same (fun _ => False) Y8 W9 → MemAt W9 f fb N0 ∧ WorkAt W9 w.heap.size wk f k (fun x => x < A.heap.size ∨ x = W8.heap.size) U0 ∧ Five W9 w.heap.size (.int .i64 0) (.int .i64 0) (.int .i64 0) (.int .i64 0) (.slice none 0 0) := fun W9 h => ⟨g1.same0 h, g2.same0 h, RY.same h (by simp)⟩
        have hp255 : p0 ≤ 255 := by omega
        have HY8 := Lib.hid (And.intro @hN0 g13)
        have HST := Lib.hid hst1
        have HSY := Lib.hid (And.intro sY (And.intro hzY (And.intro FY (And.intro i5 u6))))
        have HNY := Lib.hid (And.intro hDW hLW)
        clear hzq i1 i2 i4 i6 i7 i8 i9 i10 i11 i12 i13 hs2 hLn zB1 zV1 hz8 hz7 hsb hRX s8X s78 hs1b hs1c ps1 hsafe shX sBX g1 g2 g13 hN0 hst1 shY RY FY sY hI hLW hDW u6
        go_wp2
        rw [rounds_succ]
        obtain ⟨B2, hB2⟩ : ∃ B, B = Y8.alloc (.cells #[.string d, .int .i64 3] 152) := ⟨_, rfl⟩
        have sB2 : Same (fun _ => False) Y8 B2 := by rw [hB2]; exact same_alloc _
        have zB2 : B2.heap.size = Y8.heap.size + 1 := by rw [hB2]; simp
        have pb1 := sB2.cell g7 (by simp)
        have pz1 := sB2.unfrozen g7 g8 (by simp)
        have xc1 : B2.cell? ⟨Y8.heap.size, 1, none⟩ = some (.int .i64 3) := by rw [hB2]; simp [go_sem]
        have xs1 : B2.shape? Y8.heap.size = some (152, 2) := by rw [hB2, shape_alloc]; simp
        have wvB := sB2.cell wvY (by simp)
        have feB := sB2.cell g9 (by simp)
        have fezB := sB2.unfrozen g9 g10 (by simp)
        have HB2 := Lib.hid (And.intro hB2 (And.intro sB2 (And.intro zB2 xs1)))
        clear xs1 sB2 zB2
        go_wp2_with fail
        rw [← hB2]
        clear hB2
        refine (leaves_any B2 d).mono ?_
        rintro e V2 ⟨rfl, hV2⟩
        have wvV0 := wvB
        have xc0 := xc1
        have sV2 : Same (fun _ => False) B2 V2 := by rw [hV2]; exact same_alloc _
        have zV2 : V2.heap.size = B2.heap.size + 1 := by rw [hV2]; simp
        have sx1 : Sx V2 B2.heap.size d := by rw [hV2]; exact ⟨by simp, by simp [go_sem]⟩
        have pV1 := sV2.cell pb1 (by simp)
        have pzV1 := sV2.unfrozen pb1 pz1 (by simp)
        have xV1 := sV2.cell xc1 (by simp)
        have wvV1 := sV2.cell wvB (by simp)
        have feV1 := sV2.cell feB (by simp)
        have fezV1 := sV2.unfrozen feB fezB (by simp)
        have vsh1 : V2.shape? B2.heap.size = some (9, 1) := by rw [hV2, shape_alloc]; simp
        have HV2 := Lib.hid (And.intro sV2 (And.intro zV2 (And.intro sx1 vsh1)))
        clear hV2 sV2 zV2 vsh1 sx1 pb1 pz1 xc1 wvB feB fezB
        go_wp2
        refine (wpIn_wide (n := 0)).1 ?_
        refine range_wide2 (gf := 112) (lb := #[.pointer (some ⟨B2.heap.size, 0, none⟩)]) rfl (enters_of Try.func112 (by kernel_rfl) rfl) ?_
        intro rec2 D2 L2 X2 hD hL hrule hsX hl1 hd1 hrec
        obtain ⟨sV2, zV2, sx1, vsh1⟩ := HV2.out
        obtain ⟨hB2, sB2, zB2, xs1⟩ := HB2.out
        obtain ⟨qs0, qs1, qs2, qs3, qs4, qs5⟩ := HST.out
        obtain ⟨sY, hzY, FY, i5, u6⟩ := HSY.out
        obtain ⟨hDW, hLW⟩ := HNY.out
        have hY2 : ∀ b x, Y8.shape? b = some x → b < Y8.heap.size := fun b x h => by
          rcases Nat.lt_or_ge b Y8.heap.size with h2 | h2
          · exact h2
          · have : Y8.shape? b = none := by unfold World.shape?; rw [Array.getElem?_eq_none h2]
            rw [this] at h; cases h
        have ps1 := (sB2.shp _ (hY2 _ _ qs0)).trans qs0
        have hs1a := (sB2.shp _ (hY2 _ _ qs1)).trans qs1
        have hs1b := (sB2.shp _ (hY2 _ _ qs2)).trans qs2
        have hs1c := (sB2.shp _ (hY2 _ _ qs3)).trans qs3
        have yss := (sB2.shp _ (hY2 _ _ qs4)).trans qs4
        have hs1d := (sB2.shp _ (hY2 _ _ qs5)).trans qs5
        have hDlt := (Array.getElem?_eq_some_iff.1 HY8.out.2).1
        obtain ⟨zB1, zV1, hz8, hz7, hsb, hRX0, s8X0, s780, hwkb0, hs1b0, hs1c0, ps10, hsafe0, shX0⟩ := HFIN.out
        obtain ⟨hN0, hDY⟩ := HY8.out
        have sBX : Same (fun _ => False) B2 X2 := sV2.trans hsX
        have s8X : Same (fun _ => False) Y8 X2 := sB2.trans sBX
        obtain ⟨hMX, hWX, hRX⟩ := hN0 _ s8X
        have hzX := sBX.size
        have hLX := (Array.getElem?_eq_some_iff.1 hl1).1
        have hDX := (Array.getElem?_eq_some_iff.1 hd1).1
        have hwkX := hWX.lt
        have hwkb := hWX.hb
        have shX : ∀ b, b < B2.heap.size → X2.shape? b = B2.shape? b := fun b hb => sBX.shp b hb
        have hsafe : ∀ b, b = W8.heap.size ∨ b = w.heap.size + 1 ∨ b = w1.heap.size ∨ b = Y8.heap.size ∨ b = w.heap.size ∨ b = W8.heap.size + 1 ∨ b = sb → (∃ t n, B2.shape? b = some (t, n) ∧ t ≠ 1) ∧ b ≠ fb ∧ b ≠ wk ∧ b < B2.heap.size := fun b hb => by
          have hwkne : ∀ t n, B2.shape? b = some (t, n) → t ≠ 151 → b ≠ wk := fun t n h ht e => by
            have h2 := hWX.sh
            by_cases hlt9 : wk < B2.heap.size
            · rw [← e] at h2
              rw [shX b (by rw [e]; exact hlt9), h] at h2
              cases h2
              exact ht rfl
            · rw [e] at h
              have : B2.shape? wk = none := by unfold World.shape?; rw [Array.getElem?_eq_none (by omega)]
              rw [this] at h; cases h
          rcases hb with rfl | rfl | rfl | rfl | rfl | rfl | rfl
          · exact ⟨⟨_, _, ps1, by simp⟩, by omega, hwkne _ _ ps1 (by simp), by omega⟩
          · exact ⟨⟨_, _, hs1b, by simp⟩, by omega, hwkne _ _ hs1b (by simp), by omega⟩
          · exact ⟨⟨_, _, hs1a, by simp⟩, by omega, hwkne _ _ hs1a (by simp), by omega⟩
          · exact ⟨⟨_, _, xs1, by simp⟩, by omega, hwkne _ _ xs1 (by simp), by omega⟩
          · exact ⟨⟨_, _, hs1c, by simp⟩, by omega, hwkne _ _ hs1c (by simp), by omega⟩
          · exact ⟨⟨_, _, yss, by simp⟩, by omega, hwkne _ _ yss (by simp), by omega⟩
          · exact ⟨⟨_, _, hs1d, by simp⟩, by omega, hwkne _ _ hs1d (by simp), by omega⟩
        have hstp : ∀ W W', Same (Sq fb wk w.heap.size (w.heap.size + 1) W8.heap.size B2.heap.size X2) X2 W → Same (Wf fb w.heap.size wk W) W W' → Same (Sq fb wk w.heap.size (w.heap.size + 1) W8.heap.size B2.heap.size X2) X2 W' := fun W W' h g => sq_wf h g
        have hnw : ∀ b, b = W8.heap.size ∨ b = w.heap.size + 1 ∨ b = w1.heap.size ∨ b = Y8.heap.size ∨ b = w.heap.size ∨ b = W8.heap.size + 1 ∨ b = sb → ∀ W, Same (Sq fb wk w.heap.size (w.heap.size + 1) W8.heap.size B2.heap.size X2) X2 W → ¬ Wf fb w.heap.size wk W b := fun b hb W h => by
          obtain ⟨⟨t', n', g1, g2⟩, g3, g4, g5⟩ := hsafe b hb
          exact wf_free ((h.shp b (by omega)).trans ((shX b g5).trans g1)) g3 g4 g2
        have hnq : ∀ b, b = w1.heap.size ∨ b = Y8.heap.size ∨ b = w.heap.size ∨ b = W8.heap.size + 1 ∨ b = sb → ¬ Sq fb wk w.heap.size (w.heap.size + 1) W8.heap.size B2.heap.size X2 b := fun b hb => by
          obtain ⟨⟨t', n', g1, g2⟩, g3, g4, g5⟩ := hsafe b (by omega)
          rintro (h | h | ⟨-, m, h⟩ | h | h | h)
          · exact g3 h
          · exact g4 h
          · rw [shX b g5, g1] at h; cases h; exact g2 rfl
          · omega
          · omega
          · omega
        have hWX2 := hWX
        have hDX2 := s8X.block hDY (by simp)
        have hDn0 : ∀ n, X2.shape? D ≠ some (1, n) := fun n h => by
          have := shape_none hDX2 rfl
          rw [this] at h; cases h
        have hDq : ¬ Sq fb wk w.heap.size (w.heap.size + 1) W8.heap.size B2.heap.size X2 D := by
          rintro (h | h | ⟨-, m, h⟩ | h | h | h)
          · omega
          · omega
          · exact hDn0 m h
          · omega
          · omega
          · omega
        have hshb : X2.shape? B2.heap.size = some (9, 1) := (hsX.shp _ (by omega)).trans vsh1
        obtain ⟨I2, HI2⟩ : ∃ I : ByteArray → World → Prop, Hid (∀ s W, I s W ↔ (∃ (N : Mm) (U : List Und) (p : Nat), MemAt W f fb N ∧ WorkAt W w.heap.size wk f k (fun x => x < A.heap.size ∨ x = W8.heap.size) U ∧ U.length = p + 1 ∧ p + s.size ≤ 510 ∧ p + (leavesL s).length = (leavesL t).length + (leavesL d).length ∧
            Mm.fillU k M1 [.root] (imgItems t d) = Mm.fillU k N U (itemsL p 3 (leavesL s) ++ stackL) ∧
            W.cell? ⟨W8.heap.size, 0, none⟩ = some (.int .i64 p) ∧ W.frozen? ⟨W8.heap.size, 0, none⟩ = false ∧ W.cell? ⟨w.heap.size + 1, 0, none⟩ = some (.int .i64 0) ∧ W.frozen? ⟨w.heap.size + 1, 0, none⟩ = false ∧
            Same (Sq fb wk w.heap.size (w.heap.size + 1) W8.heap.size B2.heap.size X2) X2 W ∧ W.heap[L2]? = some (rec2 .ready none) ∧ W.heap[D2]? = some (.deferred (some [])))) := ⟨_, Lib.hid fun s W => Iff.rfl⟩
        obtain ⟨J2, HJ2⟩ : ∃ J : World → Prop, Hid (∀ W, J W ↔ (∃ (N : Mm) (U : List Und), MemAt W f fb N ∧ WorkAt W w.heap.size wk f k (fun x => x < A.heap.size ∨ x = W8.heap.size) U ∧ U.length ≤ 600 ∧ R = (N.undo k U.reverse, (k : Int), 11) ∧ W.cell? ⟨w.heap.size + 1, 0, none⟩ = some (.int .i64 11) ∧ Five W w.heap.size (.int .i64 0) (.int .i64 0) (.int .i64 0) (.int .i64 0) (.slice none 0 0) ∧
            Same (fun b => b = fb ∨ w.heap.size ≤ b) X2 W ∧ W.heap[L2]? = some (rec2 .done (some .ret)) ∧ W.heap[D2]? = some (.deferred (some [])) ∧ W.heap[D]? = some (.deferred (some [])))) := ⟨_, Lib.hid fun W => Iff.rfl⟩
        refine Calls.mono (leaves1 L2 B2.heap.size I2 J2
          ?_ ?_ X2 d (by omega) ((HI2.out _ _).2 ⟨N0, U0, p0, hMX, hWX2, u3, by omega, by omega, u6, hsX.cell pV1 (by simp), hsX.unfrozen pV1 pzV1 (by simp), hsX.cell feV1 (by simp), hsX.unfrozen feV1 fezV1 (by simp), Same.refl _ _, hl1, hd1⟩) (sx1.same hsX (by simp))) ?_
        · rintro s W W' hI hs
          obtain ⟨N, U, p, i1, i2, i3, i4, i5, i6, i7, i8, i9, i10, i11, i12, i13⟩ := (HI2.out _ _).1 hI
          have hzW := i11.size
          have sh : W.shape? B2.heap.size = some (9, 1) := (i11.shp _ (by omega)).trans hshb
          exact (HI2.out _ _).2 ⟨N, U, p, i1.same hs (by omega) (by omega), i2.same hs (fun b hb => by subst hb; exact free_shape sh (by simp)), i3, i4, i5, i6, hs.cell i7 (by simp; omega), hs.unfrozen i7 i8 (by simp; omega), hs.cell i9 (by simp; omega), hs.unfrozen i9 i10 (by simp; omega),
            i11.trans' (hs.mono (T := Sq fb wk w.heap.size (w.heap.size + 1) W8.heap.size B2.heap.size X2) (fun b _ e => .inr (.inr (.inr (.inr (.inr (by omega))))))) (fun b h _ => h), hs.block i12 (by omega), hs.block i13 (by omega)⟩
        · rintro s W hs0 hsz hSx hI
          obtain ⟨N, U, p, i1, i2, i3, i4, i5, i6, i7, i8, i9, i10, i11, i12, i13⟩ := (HI2.out _ _).1 hI
          clear hI
          have hzW := i11.size
          have hwvW := i11.cell (sBX.cell wvV0 (by simp)) (hnq _ (.inl rfl))
          have hxcW := i11.cell (sBX.cell xc0 (by simp)) (hnq _ (.inr (.inl rfl)))
          have hlkp : lk s ≤ s.size ∧ 0 < lk s ∧ lk s ≤ 64 := by unfold lk; omega
          rw [leavesL_step hs0] at i5 i6
          simp only [itemsL, List.cons_append, Mm.fillU] at i6
          have hs1z : (s.extract 0 (lk s)).size ≤ 64 := by rw [ByteArray.size_extract]; omega
          obtain ⟨s1, hs1⟩ : ∃ s1, s1 = s.extract 0 (lk s) := ⟨_, rfl⟩
          rw [← hs1] at i6 hs1z ⊢
          have hLW := (Array.getElem?_eq_some_iff.1 i12).1
          have hDW := (Array.getElem?_eq_some_iff.1 i13).1
          have hLn : ∀ b t n, W.shape? b = some (t, n) → b ≠ L2 := fun b t n h e => by
            have := shape_none i12 (by obtain ⟨r, hr⟩ := hrec .ready none; rw [hr]; rfl)
            rw [e, this] at h; cases h
          have hLq : ∀ b, b = L2 → Sq fb wk w.heap.size (w.heap.size + 1) W8.heap.size B2.heap.size X2 b := fun b e => .inr (.inr (.inr (.inr (.inr (by omega)))))
          have hwkL : wk ≠ L2 := hLn wk 151 3 i2.sh
          have HIN := Lib.hid (And.intro i1 (And.intro i2 (And.intro i3 (And.intro i4 (And.intro i5 (And.intro i6 (And.intro i11 (And.intro hSx (And.intro @hLn @hstp)))))))))
          have HNW := Lib.hid @hnw
          have HNQ := Lib.hid @hnq
          have HID13 := Lib.hid i13
          have HSH4 := Lib.hid (And.intro hs1b ps1)
          have HSH5 := Lib.hid hs1c
          have HSHB := Lib.hid (And.intro hshb shX)
          have HRX := Lib.hid (And.intro hRX (And.intro s8X (And.intro s8X hwkb)))
          have HSF := Lib.hid @hsafe
          have HLW := Lib.hid (And.intro hLW hDW)
          have HNUM := Lib.hid (And.intro zB2 (And.intro zV2 (And.intro hz8 (And.intro hz7 hsb))))
          clear hLW hDW
          clear hstp hnw hnq hsafe hLn hSx i1 i2 i4 i5 i6 i11 hN0 hs1 hMX hWX hRX hWX2 hsX sx1 sV2 sB2 hB2 ps1 xs1 yss hs1a hs1b hs1c hs1d vsh1 hshb shX s8X sBX pV1 pzV1 feV1 fezV1 xV1 wvV1 zB2 zV2 hd1 hl1 hsb hz7 hz8
          refine hrule W _ _ i12 rfl ?_
          gi_wp2
          intro W2 hs2 hz2 hl2
          obtain ⟨hLW, hDW⟩ := HLW.out
          obtain ⟨zB2, zV2, hz8, hz7, hsb⟩ := HNUM.out
          obtain ⟨i1, i2, i3', i4, i5, i6, i11, hSx, hLn, hstp⟩ := HIN.out
          have hM2 := i1.same hs2 (by omega) (by omega)
          have hW2 := i2.same hs2 (fun b hb => .inr fun t' m h => by exact ((hLn b t' m h) hb).elim)
          have s12 : Same (Sq fb wk w.heap.size (w.heap.size + 1) W8.heap.size B2.heap.size X2) X2 W2 := i11.trans' (hs2.mono (T := Sq fb wk w.heap.size (w.heap.size + 1) W8.heap.size B2.heap.size X2) (fun b _ e => hLq b e)) (fun b h _ => h)
          have j7 := hs2.cell i7 (by simp; omega)
          have j8 := hs2.unfrozen i7 i8 (by simp; omega)
          have j9 := hs2.cell i9 (by simp; omega)
          have j10 := hs2.unfrozen i9 i10 (by simp; omega)
          have j13 := hs2.block i13 (by omega)
          have jwv := hs2.cell hwvW (by simp; omega)
          have jxc := hs2.cell hxcW (by simp; omega)
          have jSx := hSx.same hs2 (by omega)
          have hzW2 := s12.size
          have hfa := filled_any hM2 hW2 (fun x hx => by omega) (by omega) (p : Int) 3 s1 (by constructor <;> omega) hs1z (N.fresh_used k p 3)
          obtain ⟨⟨M4, er⟩, hFI⟩ : ∃ y, y = N.filled k p 3 s1 := ⟨_, rfl⟩
          rw [← hFI] at hfa i6
          simp only at hfa i6
          have he11 : er = 0 ∨ er = 11 := by have := N.filled_err k p 3 s1; rw [← hFI] at this; exact this
          have n7 := HNW.out W8.heap.size (.inl rfl) W2 s12
          have n9 := HNW.out (w.heap.size + 1) (.inr (.inl rfl)) W2 s12
          have nwv := HNW.out w1.heap.size (.inr (.inr (.inl rfl))) W2 s12
          have HJ := Lib.hid (And.intro i6 (And.intro s12 (And.intro j13 (And.intro jSx (And.intro n7 (And.intro n9 nwv))))))
          clear i1 i2 i3' i4 i5 i6 i11 hSx hLn hstp hM2 hW2 s12 i7 i8 i9 i10 i12 i13 hwvW hxcW j13 jSx n7 n9 nwv hFI hs2 hLW hDW zB2 zV2 hz8 hz7 hsb
          gi_wp2_with fail
          refine CallsIn.mono (CallsIn.inRound L2 (callsIn_wide.2 hfa)) ?_
          rintro e W4 ⟨rfl, hM4, hW4, hs4⟩
          obtain ⟨i6, s12, j13, jSx, n7, n9, nwv⟩ := HJ.out
          obtain ⟨hLW, hDW⟩ := HLW.out
          obtain ⟨zB2, zV2, hz8, hz7, hsb⟩ := HNUM.out
          have k7 := hs4.cell j7 n7
          have k8 := hs4.unfrozen j7 j8 n7
          have k9 := hs4.cell j9 n9
          have k10 := hs4.unfrozen j9 j10 n9
          have hzW4 := hs4.size
          have hnL4 : ∀ b, b = L2 ∨ b = D2 ∨ b = B2.heap.size → ¬ Wf fb w.heap.size wk W2 b := fun b hb => by
            have hsL : ∀ t m, W2.shape? L2 = some (t, m) → False := fun t m h => by
              have := shape_none hl2 (by obtain ⟨r, hr⟩ := hrec .busy none; rw [hr]; rfl)
              rw [this] at h; cases h
            have hsD : ∀ t m, W2.shape? D2 = some (t, m) → False := fun t m h => by
              have := shape_none j13 rfl
              rw [this] at h; cases h
            have hwkL9 : wk ≠ L2 ∧ wk ≠ D2 := by
              have h2 := HIN.out.2.1.sh
              have hss := (HSHB.out.2 wk)
              refine ⟨hwkL, fun e => ?_⟩
              have := shape_none (HID13.out) (rfl)
              rw [← e, h2] at this; cases this
            rcases hb with rfl | rfl | rfl
            · rintro (h | h | ⟨-, m, h⟩)
              · omega
              · exact hwkL h.symm
              · exact hsL _ _ h
            · rintro (h | h | ⟨-, m, h⟩)
              · omega
              · exact hwkL9.2 h.symm
              · exact hsD _ _ h
            · refine wf_free ((s12.shp _ (by omega)).trans HSHB.out.1) (by omega) (fun e => ?_) (by simp)
              have h2 := HIN.out.2.1.sh
              rw [← e, (HIN.out.2.2.2.2.2.2.1.shp _ (by omega)), HSHB.out.1] at h2
              cases h2
          have k12 := hs4.block hl2 (hnL4 L2 (.inl rfl))
          have k13 := hs4.block j13 (hnL4 D2 (.inr (.inl rfl)))
          have kSx := jSx.same hs4 (hnL4 _ (.inr (.inr rfl)))
          have s14 := HIN.out.2.2.2.2.2.2.2.2.2 _ _ s12 hs4
          have shL4 : ∀ b t m, W4.shape? b = some (t, m) → b ≠ L2 := fun b t m h e => by
            have := shape_none k12 (by obtain ⟨r, hr⟩ := hrec .busy none; rw [hr]; rfl)
            rw [e, this] at h; cases h
          have hpe : ¬ W8.heap.size = w.heap.size + 1 := by omega
          have hep : ¬ w.heap.size + 1 = W8.heap.size := by omega
          have hp255 : p ≤ 510 := by have := HIN.out.2.2.2.1; omega
          have HK := Lib.hid (And.intro hM4 (And.intro hW4 (And.intro s14 (And.intro k13 (And.intro kSx @shL4)))))
          clear hfa hs4 hnL4 s12 j13 jSx n7 n9 nwv j7 j8 j9 j10 jwv jxc hM4 hW4 s14 k13 kSx shL4 hLW hDW zB2 zV2 hz8 hz7 hsb hl2
          rcases he11 with rfl | rfl
          · simp only [if_true] at i6
            have HI6 := Lib.hid i6
            clear i6
            gi_wp2
            obtain ⟨zB2, zV2, hz8, hz7, hsb⟩ := HNUM.out
            obtain ⟨hLW, hDW⟩ := HLW.out
            obtain ⟨W6, hW6⟩ : ∃ W6, W6 = (W4.setCell ⟨w.heap.size + 1, 0, none⟩ (.int .i64 0)).setCell ⟨W8.heap.size, 0, none⟩ (.int .i64 ((p : Int) + 1)) := ⟨_, rfl⟩
            rw [← hW6]
            have s46 : Same (fun b => b = w.heap.size + 1 ∨ b = W8.heap.size) W4 W6 := by rw [hW6]; exact ((Same.refl (fun b => b = w.heap.size + 1 ∨ b = W8.heap.size) W4).setCell _ (.inr (.inl rfl))).setCell _ (.inr (.inr rfl))
            have m7 : W6.cell? ⟨W8.heap.size, 0, none⟩ = some (.int .i64 ((p + 1 : Nat) : Int)) := by
              rw [hW6, World.cell?_setCell_same _ _ _ (by rw [World.cell?_setCell_other _ _ _ _ (by simp; try omega)]; exact k7)]
              rfl
            have m8 : W6.frozen? ⟨W8.heap.size, 0, none⟩ = false := by rw [hW6]; simp only [World.frozen?_setCell]; exact k8
            have m9 : W6.cell? ⟨w.heap.size + 1, 0, none⟩ = some (.int .i64 0) := by
              rw [hW6, World.cell?_setCell_other _ _ _ _ (by simp; try omega)]; exact World.cell?_setCell_same _ _ _ k9
            have m10 : W6.frozen? ⟨w.heap.size + 1, 0, none⟩ = false := by rw [hW6]; simp only [World.frozen?_setCell]; exact k10
            obtain ⟨hM4, hW4, s14, k13, kSx, shL4⟩ := HK.out
            have sh4 : ∀ b, b < B2.heap.size → W4.shape? b = B2.shape? b := fun b hb => (s14.shp b (by omega)).trans (HSHB.out.2 b hb)
            obtain ⟨⟨tp, mp, gp1, gp2⟩, gp3, gp4, gp5⟩ := HSF.out W8.heap.size (.inl rfl)
            have hM6 := hM4.same s46 (by omega) (by omega)
            have hW6w : WorkAt W6 w.heap.size wk f k (fun x => x < A.heap.size ∨ x = W8.heap.size) (U ++ [.page p]) := WorkAt.same (by simpa [pushed] using hW4) s46 (fun b hb => by
              rcases hb with rfl | rfl
              · exact free_shape ((sh4 _ (by omega)).trans HSH4.out.1) (by simp)
              · exact .inl ⟨.inr rfl, fun m h => (by rw [sh4 _ gp5, HSH4.out.2] at h; cases h), fun m h => (by rw [sh4 _ gp5, HSH4.out.2] at h; cases h)⟩)
            have m12 := s46.block k12 (by omega)
            have m13 := s46.block k13 (by omega)
            have mSx := kSx.same s46 (by omega)
            have s16 : Same (Sq fb wk w.heap.size (w.heap.size + 1) W8.heap.size B2.heap.size X2) X2 W6 := s14.trans' (s46.mono (T := Sq fb wk w.heap.size (w.heap.size + 1) W8.heap.size B2.heap.size X2) (fun b _ hb => by
              rcases hb with hb | hb
              · exact .inr (.inr (.inr (.inl hb)))
              · exact .inr (.inr (.inr (.inr (.inl hb)))))) (fun b h _ => h)
            obtain ⟨i1, i2, i3', i4, i5, -, i11, -, -, -⟩ := HIN.out
            refine ⟨m12, fun W9 hs9 hz9 hl9 => .inl ⟨rfl, mSx.same hs9 (by omega), (HI2.out _ _).2 ⟨M4, U ++ [.page p], p + 1, hM6.same hs9 (by omega) (by omega), hW6w.same hs9 (fun b hb => ?_), by rw [List.length_append, List.length_singleton, i3], ?_, ?_, ?_, hs9.cell m7 (by simp; omega), hs9.unfrozen m7 m8 (by simp; omega), hs9.cell m9 (by simp; omega), hs9.unfrozen m9 m10 (by simp; omega), s16.trans' (hs9.mono (T := Sq fb wk w.heap.size (w.heap.size + 1) W8.heap.size B2.heap.size X2) (fun b _ e => .inr (.inr (.inr (.inr (.inr (by omega))))))) (fun b h _ => h), hl9, hs9.block m13 (by omega)⟩⟩⟩
            · refine .inr fun t' m h => ?_
              rw [s46.shp b (by omega)] at h
              exact (shL4 b t' m h hb).elim
            · rw [size_rest s _ hlkp.1]; omega
            · rw [List.length_cons] at i5; omega
            · exact HI6.out
          · simp only [Int.reduceEq, if_false] at i6
            have HI6 := Lib.hid i6
            clear i6
            obtain ⟨zB2, zV2, hz8, hz7, hsb⟩ := HNUM.out
            obtain ⟨hLW, hDW⟩ := HLW.out
            obtain ⟨hM4, hW4, s14, k13, kSx, shL4⟩ := HK.out
            obtain ⟨hRX, s8X, s78, hwkb⟩ := HRX.out
            have R4 := hRX.same s14 (HNQ.out w.heap.size (.inr (.inr (.inl rfl))))
            obtain ⟨W5, hW5⟩ : ∃ W5, W5 = W4.setCell ⟨w.heap.size + 1, 0, none⟩ (.int .i64 11) := ⟨_, rfl⟩
            have hsE : Same (· = w.heap.size + 1) W4 W5 := by rw [hW5]; exact (Same.refl _ _).setCell _ (.inr rfl)
            obtain ⟨f0, f1, f2, f3, f4, ff⟩ := R4.same hsE (by omega)
            have ff0 := ff 0
            have ff1 := ff 1
            have ff2 := ff 2
            have ff3 := ff 3
            have ff4 := ff 4
            have fe : W5.cell? ⟨w.heap.size + 1, 0, none⟩ = some (.int .i64 11) := by rw [hW5]; exact World.cell?_setCell_same _ _ _ k9
            have fez : W5.frozen? ⟨w.heap.size + 1, 0, none⟩ = false := by rw [hW5, World.frozen?_setCell]; exact k10
            have k12' := hsE.block k12 (by omega)
            have HZ := Lib.hid (And.intro hW5 (And.intro hsE k12'))
            clear ff hsE R4 hRX s8X s78 hwkb hM4 hW4 s14 k13 kSx shL4 zB2 zV2 hz8 hz7 hsb hLW hDW k7 k8 k12 k12'
            gi_wp2
            rw [← HZ.out.1]
            clear hW5 k9 k10
            obtain ⟨W6, hW6⟩ : ∃ W6, W6 = ((((((W5.setCell ⟨w.heap.size, 0, none⟩ (.int .i64 0)).setCell ⟨w.heap.size, 1, none⟩ (.int .i64 0)).setCell ⟨w.heap.size, 2, none⟩ (.int .i64 0)).setCell ⟨w.heap.size, 3, none⟩ (.int .i64 0)).setCell ⟨w.heap.size, 4, none⟩ (.slice none 0 0)).setCell ⟨w.heap.size + 1, 0, none⟩ (.int .i64 11)).drew := ⟨_, rfl⟩
            have HW6 := Lib.hid hW6
            clear hW6
            apply wpIn_to (X := W6)
            case h1 =>
              gi_region
              all_goals exact ⟨rfl, rfl, HW6.out.symm⟩
            obtain ⟨⟨g0, g1, g2, g3, g4⟩, fe6, s56⟩ := put5e HW6.out f0 f1 f2 f3 f4 fe (by omega)
            have k12'' := s56.block HZ.out.2.2 (by obtain ⟨zB2, zV2, hz8, hz7, hsb⟩ := HNUM.out; omega)
            have HG := Lib.hid (And.intro (And.intro g0 (And.intro g1 (And.intro g2 (And.intro g3 g4)))) (And.intro fe6 (And.intro s56 k12'')))
            clear f0 f1 f2 f3 f4 fe ff0 ff1 ff2 ff3 ff4 fez g0 g1 g2 g3 g4 fe6 s56 k12''
            gi_wp2
            obtain ⟨⟨g0, g1, g2, g3, g4⟩, fe6, s56, k12''⟩ := HG.out
            obtain ⟨-, hsE, -⟩ := HZ.out
            obtain ⟨hM4, hW4, s14, k13, kSx, shL4⟩ := HK.out
            obtain ⟨zB2, zV2, hz8, hz7, hsb⟩ := HNUM.out
            obtain ⟨hLW, hDW⟩ := HLW.out
            obtain ⟨hRX, s8X, s78, hwkb⟩ := HRX.out
            have s46 : Same (fun b => b = w.heap.size + 1 ∨ b = w.heap.size) W4 W6 := (hsE.mono (fun _ _ h => .inl h)).trans s56
            have sh4 : ∀ b, b < B2.heap.size → W4.shape? b = B2.shape? b := fun b hb => (s14.shp b (by omega)).trans (HSHB.out.2 b hb)
            have hM6 := hM4.same s46 (by omega) (by omega)
            have hW6w : WorkAt W6 w.heap.size wk f k (fun x => x < A.heap.size ∨ x = W8.heap.size) U := WorkAt.same (by simpa [pushed] using hW4) s46 (fun b hb => by
              rcases hb with rfl | rfl
              · exact free_shape ((sh4 _ (by omega)).trans HSH4.out.1) (by simp)
              · obtain ⟨⟨tp, mp, gp1, gp2⟩, gp3, gp4, gp5⟩ := HSF.out w.heap.size (.inr (.inr (.inr (.inr (.inl rfl)))))
                exact free_shape ((sh4 _ gp5).trans HSH5.out) (by simp))
            have hgf : ∀ o, W6.frozen? ⟨w.heap.size, o, none⟩ = false := fun o => by
              obtain ⟨q0, q1, q2, q3, q4, qf⟩ := hRX.same s14 (HNQ.out w.heap.size (.inr (.inr (.inl rfl))))
              exact put5e_fz HW6.out o ((hsE.frozen (a := ⟨w.heap.size, o, none⟩) (by show w.heap.size < _; omega) (by simp)).trans (qf o))
            have k13' := s46.block k13 (by omega)
            have sWq : Same (fun b => b = fb ∨ w.heap.size ≤ b) X2 W6 := (s14.mono (T := fun b => b = fb ∨ w.heap.size ≤ b) (fun b _ hb => by
              rcases hb with h | h | ⟨h, -⟩ | h | h | h
              · exact .inl h
              · exact .inr (by omega)
              · exact .inr h
              · exact .inr (by omega)
              · exact .inr (by omega)
              · exact .inr (by omega))).trans (s46.mono (T := fun b => b = fb ∨ w.heap.size ≤ b) (fun b _ h => by omega))
            have shL6 : ∀ b t m, W6.shape? b = some (t, m) → b ≠ L2 := fun b t m h e => by
              have := shape_none k12'' (by obtain ⟨r, hr⟩ := hrec .busy none; rw [hr]; rfl)
              rw [e, this] at h; cases h
            refine ⟨k12'', fun W9 hs9 hz9 hl9 => .inr ⟨rfl, (HJ2.out _).2 ⟨M4, U, hM6.same hs9 (by omega) (by omega), hW6w.same hs9 (fun b hb => .inr fun t' m h => (shL6 b t' m h hb).elim), by omega, ?_, hs9.cell fe6 (by simp; omega), (⟨g0, g1, g2, g3, g4, hgf⟩ : Five W6 w.heap.size _ _ _ _ _).same hs9 (by omega), sWq.trans (hs9.mono (T := fun b => b = fb ∨ w.heap.size ≤ b) (fun b _ e => .inr (by omega))), hl9, hs9.block k13' (by omega), hs9.block (s46.block (s14.block hDX2 hDq) (by omega)) (by omega)⟩⟩⟩
            have hR2 := HX.out.1
            rw [HI6.out] at hR2
            rw [hR2]
        · have HFIN2 := Lib.hid (And.intro zB2 (And.intro zV2 (And.intro hRX (And.intro s8X (And.intro hwkb (And.intro hs1b (And.intro hs1c (And.intro ps1 (And.intro @hsafe (And.intro @shX (And.intro hDX2 hDq)))))))))))
          have HNQ2 := Lib.hid @hnq
          have HSB2 := Lib.hid (And.intro sBX (And.intro hzX (And.intro wvV0 (And.intro hs1a hs1d))))
          clear hstp hnw hnq hsafe hN0 hMX hWX hRX hWX2 hsX sx1 sV2 sB2 hB2 ps1 xs1 yss hs1a hs1b hs1c hs1d vsh1 hshb shX s8X sBX pV1 pzV1 feV1 fezV1 xV1 wvV1 zB2 zV2 hd1 hl1 hsb hz7 hz8 wvV0 xc0 hrule hDX2 hDq hDn0 qs0 qs1 qs2 qs3 qs4 qs5 sY hzY FY i5 u6 hDW hLW hY2 hDlt hDY zB1 zV1 hRX0 s8X0 s780 hwkb0 hs1b0 hs1c0 ps10 hsafe0 shX0
          rintro e W9 ⟨⟨v, rfl⟩, ⟨s, hs0, hI⟩ | hJ⟩
          · obtain ⟨N, U, p, i1, i2, u3, i4, i5, i6, i7, i8, i9, i10, i11, i12, i13⟩ := (HI2.out _ _).1 hI
            rw [leavesL_zero hs0] at i5 i6
            simp only [itemsL, List.nil_append, List.length_nil, Nat.add_zero] at i5 i6
            refine ⟨⟨_, rfl⟩, .inl ⟨i12, fun Y9 hs2 hzq => ?_⟩⟩
            have hLW := (Array.getElem?_eq_some_iff.1 i12).1
            have hDW := (Array.getElem?_eq_some_iff.1 i13).1
            have hLn : ∀ b t n, W9.shape? b = some (t, n) → b ≠ L2 := fun b t n h e => by
              have := shape_none i12 (by obtain ⟨r, hr⟩ := hrec .ready none; rw [hr]; rfl)
              rw [e, this] at h; cases h
            obtain ⟨zB2, zV2, hRX, s8X, hwkb, hs1b, hs1c, ps1, hsafe, shX, hDX2, hDq⟩ := HFIN2.out
            obtain ⟨zB1, zV1, hz8, hz7, hsb, hRX0, s8X0, s780, hwkb0, hs1b0, hs1c0, ps10, hsafe0, shX0⟩ := HFIN.out
            obtain ⟨sBX, hzX2, wvB2, hs1a, hs1d⟩ := HSB2.out
            obtain ⟨sY, hzY, FY, i5', u6⟩ := HSY.out
            have hDlt := (Array.getElem?_eq_some_iff.1 HY8.out.2).1
            have sZ : Same (Sq fb wk w.heap.size (w.heap.size + 1) W8.heap.size B2.heap.size X2) X2 Y9 := i11.trans' (hs2.mono (T := Sq fb wk w.heap.size (w.heap.size + 1) W8.heap.size B2.heap.size X2) (fun b _ e => .inr (.inr (.inr (.inr (.inr (by omega))))))) (fun b h _ => h)
            have hzZ := sZ.size
            have g1 := i1.same hs2 (by omega) (by omega)
            have g2 := i2.same hs2 (fun b hb => .inr fun t' m h => (hLn b t' m h hb).elim)
            have g9 := hs2.cell i9 (by simp; omega)
            have g10 := hs2.unfrozen i9 i10 (by simp; omega)
            have g13 := hs2.block i13 (by omega)
            have gD := sZ.block hDX2 hDq
            have wvZ := sZ.cell (sBX.cell wvB2 (by simp)) (HNQ2.out _ (.inl rfl))
            have RZ := hRX.same sZ (HNQ2.out w.heap.size (.inr (.inr (.inl rfl))))
            have FZ := (FY.same s8X (by simp)).same sZ (HNQ2.out sb (.inr (.inr (.inr (.inr rfl)))))
            have shZ : ∀ b, b < B2.heap.size → Y9.shape? b = B2.shape? b := fun b hb => (sZ.shp b (by omega)).trans (shX b hb)
            have hB2w : w.heap.size + 1 < B2.heap.size := by omega
            have hE1 : Y9.shape? (w.heap.size + 1) = some (25, 1) := (shZ _ (by omega)).trans hs1b
            have hE0 : Y9.shape? w.heap.size = some (75, 5) := (shZ _ (by omega)).trans hs1c
            have hEv : Y9.shape? w1.heap.size = some (144, 1) := by
              rcases hsafe w1.heap.size (.inr (.inr (.inl rfl))) with ⟨-, -, -, h5⟩
              exact (shZ _ h5).trans hs1a
            have hnv : w1.heap.size ≠ fb ∧ w1.heap.size ≠ wk := by
              rcases hsafe w1.heap.size (.inr (.inr (.inl rfl))) with ⟨-, h3, h4, -⟩
              exact ⟨h3, h4⟩
            have hn0 : w.heap.size ≠ fb ∧ w.heap.size ≠ wk := by
              rcases hsafe w.heap.size (.inr (.inr (.inr (.inr (.inl rfl))))) with ⟨-, h3, h4, -⟩
              exact ⟨h3, h4⟩
            have hn1 : w.heap.size + 1 ≠ fb ∧ w.heap.size + 1 ≠ wk := by
              rcases hsafe (w.heap.size + 1) (.inr (.inl rfl)) with ⟨-, h3, h4, -⟩
              exact ⟨h3, h4⟩
            have hSw := HX.out.2.2.2.2.2.2
            have sX : Same (fun b => b = fb ∨ w.heap.size ≤ b) w X1 := hSw.trans' ((HS57.out.1.trans (s780.trans s8X0)).mono (T := fun b => b = fb ∨ w.heap.size ≤ b) (fun _ _ h => h.elim)) (fun b h _ => h)
            have sX2 : Same (fun b => b = fb ∨ w.heap.size ≤ b) w X2 := (sX.trans (sq_base sY (by omega) (by omega) (by omega) (by omega))).trans (s8X.mono (T := fun b => b = fb ∨ w.heap.size ≤ b) (fun _ _ h => h.elim))
            have sW : Same (fun b => b = fb ∨ w.heap.size ≤ b) w Y9 := sX2.trans (sq_base sZ (by omega) (by omega) (by omega) (by omega))
            have hAY : A.heap.size ≤ Y9.heap.size := by omega
            have hpb : W8.heap.size < Y9.heap.size := by omega
            have hul : U.length ≤ 512 := by omega
            have hR6 : R = ((Mm.fillU k N U stackL).1, (k : Int), (Mm.fillU k N U stackL).2) := by rw [HX.out.1, i6]
            have hDD : D2 ≠ D ∧ w.heap.size + 1 < D ∧ w.heap.size + 1 < D2 := by omega
            have hfbD : fb ≠ D ∧ fb ≠ D2 ∧ f ≠ D ∧ f ≠ D2 := by omega
            have HNSB : Hid (sb ≠ fb ∧ sb ≠ wk ∧ sb ≠ w.heap.size + 1 ∧ ∀ n, w.heap.size ≤ sb → Y9.shape? sb ≠ some (1, n)) := by
              have q := HNQ2.out sb (.inr (.inr (.inr (.inr rfl))))
              have lsb := World.block_lt_of_cell? _ _ (FY.same s8X (by simp)).c0
              refine Lib.hid ⟨fun e => q (.inl e), fun e => q (.inr (.inl e)), fun e => q (.inr (.inr (.inr (.inl e)))), fun n hn g => q (.inr (.inr (.inl ⟨hn, n, ?_⟩)))⟩
              rw [← sZ.shp _ lsb]; exact g
            have HW := Lib.hid (And.intro g1 (And.intro g2 (And.intro g13 (And.intro gD (And.intro RZ (And.intro FZ (And.intro hE1 (And.intro hE0 (And.intro hEv (And.intro hnv (And.intro hn0 (And.intro hn1 (And.intro sW (And.intro hAY (And.intro hpb (And.intro hul (And.intro hR6 (And.intro hDD hfbD))))))))))))))))))
            clear hzq i1 i2 i4 i5 i6 i7 i8 i9 i10 i11 i12 i13 hs2 hLn zB1 zV1 hz8 hz7 hsb hRX s8X hs1b hs1c ps1 hsafe shX sBX g1 g2 g13 gD shZ RZ FZ sZ hI hLW hDW zB2 zV2 hDX2 hDq hRX0 s8X0 s780 hwkb0 hs1b0 hs1c0 ps10 hsafe0 shX0 hzX2 wvB2 hs1a hs1d sY hzY FY i5' u6 hDlt hB2w hE1 hE0 hEv hnv hn0 hn1 hSw sX sX2 sW hAY hpb hul hR6 hDD hfbD
            obtain ⟨g1, g2, g13, gD, RZ, FZ, hE1, hE0, hEv, hnv, hn0, hn1, sW, hAY, hpb, hul, hR6, hDD, hfbD⟩ := HW.out
            have nsb : sb ≠ fb ∧ sb ≠ wk ∧ sb ≠ w.heap.size + 1 ∧ ∀ n, w.heap.size ≤ sb → Y9.shape? sb ≠ some (1, n) := HNSB.out
            have T0 : Tl w Y9 f fb wk sb w1.heap.size D D2 (fun x => x < A.heap.size ∨ x = W8.heap.size) k _ _ _ _ _ N U 0 :=
              { mem := g1, work := g2, xb := fun b hb => by omega, eb := g9, ez := g10, es := hE1, en := hn1, z := RZ, zs := hE0, zn := hn0, s := FZ, ss := nsb.2.2.2, sn := ⟨nsb.1, nsb.2.1, nsb.2.2.1⟩, v := wvZ, vs := hEv, vn := hnv, d := gD, d2 := g13, dn := by omega, base := sW }
            have hfa := filled_any T0.mem T0.work T0.xb (by omega) 254 3 ⟨#[]⟩ (by constructor <;> omega) (by decide) (N.fresh_used k 254 3)
            obtain ⟨⟨N1, e1⟩, hF1⟩ : ∃ y, y = N.filled k 254 3 ⟨#[]⟩ := ⟨_, rfl⟩
            rw [← hF1] at hfa
            have he1 : e1 = 0 ∨ e1 = 11 := by have := N.filled_err k 254 3 ⟨#[]⟩; rw [← hF1] at this; exact this
            simp only at hfa
            have HT0 := Lib.hid (And.intro T0 (And.intro hR6 (And.intro hF1 hul)))
            clear g1 g2 g13 gD RZ FZ hE1 hE0 hEv hnv hn0 hn1 sW hAY hpb hul hR6 hDD hfbD nsb T0 hF1 HW
            go_wp2
            rw [rounds_succ]
            go_wp2
            refine wp_label ?_
            go_wp2
            refine wp_loop_rounds 3 ?_
            rw [rounds_succ]
            go_wp2_with fail
            refine hfa.mono ?_
            rintro e W4 ⟨rfl, hM4, hW4, hs4⟩
            obtain ⟨T0, hR6, hF1, hul⟩ := HT0.out
            have T1 := T0.call hM4 hW4 hs4
            have fe := T1.eb
            have fez := T1.ez
            have fv := T1.v
            obtain ⟨W5, hW5⟩ : ∃ W5, W5 = W4.setCell ⟨w.heap.size + 1, 0, none⟩ (.int .i64 e1) := ⟨_, rfl⟩
            have T2 := T1.err e1 hW5
            have hp1 : pushed U 254 11 = U := by simp [pushed]
            have hp2 : pushed U 254 0 = U ++ [.page 254] := by simp [pushed]
            rcases he1 with rfl | rfl
            · rw [hp2] at T2
              have gv := T2.v
              have hfb2 := filled_any T2.mem T2.work T2.xb (by rw [List.length_append, List.length_singleton]; omega) 255 3 ⟨#[]⟩ (by constructor <;> omega) (by decide) (N1.fresh_used k 255 3)
              obtain ⟨⟨N2, e2⟩, hF2⟩ : ∃ y, y = N1.filled k 255 3 ⟨#[]⟩ := ⟨_, rfl⟩
              rw [← hF2] at hfb2
              have he2 : e2 = 0 ∨ e2 = 11 := by have := N1.filled_err k 255 3 ⟨#[]⟩; rw [← hF2] at this; exact this
              simp only at hfb2
              have HT0 := Lib.hid (And.intro T2 (And.intro hR6 (And.intro hF1 (And.intro hF2 hul))))
              rw [hW5] at hfb2 gv
              clear T0 T1 T2 hR6 hF1 hF2 hul hM4 hW4 hs4 hfa g9 g10 wvZ hp1 hp2
              have HW5 := Lib.hid hW5
              clear hW5
              go_wp2
              rw [rounds_succ]
              go_wp2_with fail
              refine hfb2.mono ?_
              rintro e W7 ⟨rfl, hM4, hW4, hs4⟩
              obtain ⟨T2, hR6, hF1, hF2, hul⟩ := HT0.out
              rw [← HW5.out] at hs4
              have T3 := T2.call hM4 hW4 hs4
              have fe' := T3.eb
              have fez' := T3.ez
              obtain ⟨W8', hW5⟩ : ∃ W5, W5 = W7.setCell ⟨w.heap.size + 1, 0, none⟩ (.int .i64 e2) := ⟨_, rfl⟩
              have TE := T3.err e2 hW5
              have hq1 : pushed (U ++ [.page 254]) 255 11 = U ++ [.page 254] := by simp [pushed]
              have hq2 : pushed (U ++ [.page 254]) 255 0 = U ++ [.page 254] ++ [.page 255] := by simp [pushed]
              clear HW5
              rcases he2 with rfl | rfl
              · rw [hq2] at TE
                have HT2 := Lib.hid (And.intro TE (And.intro hR6 (And.intro hF1 hF2)))
                have HW5 := Lib.hid hW5
                obtain ⟨f0, f1, f2, f3, f4, ff⟩ := TE.z
                rw [hW5] at f0 f1 f2 f3 f4 ff
                have ff0 := ff 0
                have ff1 := ff 1
                have ff2 := ff 2
                have ff3 := ff 3
                have ff4 := ff 4
                obtain ⟨k0, k1, k2, k3, k4, -⟩ := TE.s
                rw [hW5] at k0 k1 k2 k3 k4
                clear T2 T3 TE hR6 hF1 hF2 hul hM4 hW4 hs4 hW5 hfb2 hq1 hq2 HT0 ff
                go_wp2
                rw [rounds_succ]
                go_wp2
                rw [← HW5.out]
                simp only [Exit.noGoto]
                obtain ⟨TE, hR6, hF1, hF2⟩ := HT2.out
                obtain ⟨ht1, ht2, hRx⟩ := HT.out
                refine TE.leave_ok rfl rfl rfl ?_
                intro w7 hM7 hs7
                have hR7 : R = (N2, (k : Int), 0) := by rw [hR6]; simp only [Mm.fillU, stackL]; rw [show ByteArray.empty = ⟨#[]⟩ from rfl, ← hF1]; simp only [if_true]; rw [← hF2]; simp
                rw [hR7]
                exact ⟨hM7, hs7, .inl ⟨rfl, by rw [ht1, ht2]⟩⟩
              · rw [hq1] at TE
                have HT2 := Lib.hid (And.intro TE (And.intro hR6 (And.intro hF1 (And.intro hF2 hul))))
                have HW5 := Lib.hid hW5
                clear T2 T3 TE hR6 hF1 hF2 hul hM4 hW4 hs4 hW5 hfb2 hq1 hq2 HT0
                go_wp2
                rw [← HW5.out]
                obtain ⟨TE, hR6, hF1, hF2, hul⟩ := HT2.out
                obtain ⟨f0, f1, f2, f3, f4, ff⟩ := TE.z
                have ff0 := ff 0
                have ff1 := ff 1
                have ff2 := ff 2
                have ff3 := ff 3
                have ff4 := ff 4
                have fe := TE.eb
                have fez := TE.ez
                clear ff TE hR6 hF1 hF2 hul
                obtain ⟨W6, hW6⟩ : ∃ W6, W6 = ((((((W8'.setCell ⟨w.heap.size, 0, none⟩ (.int .i64 0)).setCell ⟨w.heap.size, 1, none⟩ (.int .i64 0)).setCell ⟨w.heap.size, 2, none⟩ (.int .i64 0)).setCell ⟨w.heap.size, 3, none⟩ (.int .i64 0)).setCell ⟨w.heap.size, 4, none⟩ (.slice none 0 0)).setCell ⟨w.heap.size + 1, 0, none⟩ (.int .i64 11)).drew := ⟨_, rfl⟩
                have HW6 := Lib.hid hW6
                clear hW6
                apply wp_to (X := W6)
                case h1 =>
                  go_region
                  all_goals exact ⟨rfl, HW6.out.symm⟩
                clear f0 f1 f2 f3 f4 ff0 ff1 ff2 ff3 ff4 fe fez
                go_wp2
                simp only [Exit.noGoto]
                obtain ⟨TE, hR6, hF1, hF2, hul⟩ := HT2.out
                refine TE.leave_err (by rw [List.length_append, List.length_singleton]; omega) HW6.out rfl rfl ?_
                intro w7 hM7 hs7
                have hR7 : R = (N2.undo k (U ++ [Und.page 254]).reverse, (k : Int), 11) := by rw [hR6]; simp only [Mm.fillU, stackL]; rw [show ByteArray.empty = ⟨#[]⟩ from rfl, ← hF1]; simp only [if_true]; rw [← hF2]; simp
                rw [hR7]
                exact ⟨hM7, hs7, .inr ⟨by simp, rfl⟩⟩
            · rw [hp1] at T2
              have HT2 := Lib.hid (And.intro T2 (And.intro hR6 (And.intro hF1 hul)))
              have HW5 := Lib.hid hW5
              clear T0 T1 T2 hR6 hF1 hul hM4 hW4 hs4 hW5 HT0 hfa g9 g10 wvZ hp1 hp2
              go_wp2
              rw [← HW5.out]
              obtain ⟨TE, hR6, hF1, hul⟩ := HT2.out
              obtain ⟨f0, f1, f2, f3, f4, ff⟩ := TE.z
              have ff0 := ff 0
              have ff1 := ff 1
              have ff2 := ff 2
              have ff3 := ff 3
              have ff4 := ff 4
              have fe := TE.eb
              have fez := TE.ez
              clear ff TE hR6 hF1 hul
              obtain ⟨W6, hW6⟩ : ∃ W6, W6 = ((((((W5.setCell ⟨w.heap.size, 0, none⟩ (.int .i64 0)).setCell ⟨w.heap.size, 1, none⟩ (.int .i64 0)).setCell ⟨w.heap.size, 2, none⟩ (.int .i64 0)).setCell ⟨w.heap.size, 3, none⟩ (.int .i64 0)).setCell ⟨w.heap.size, 4, none⟩ (.slice none 0 0)).setCell ⟨w.heap.size + 1, 0, none⟩ (.int .i64 11)).drew := ⟨_, rfl⟩
              have HW6 := Lib.hid hW6
              clear hW6
              apply wp_to (X := W6)
              case h1 =>
                go_region
                all_goals exact ⟨rfl, HW6.out.symm⟩
              clear f0 f1 f2 f3 f4 ff0 ff1 ff2 ff3 ff4 fe fez
              go_wp2
              simp only [Exit.noGoto]
              obtain ⟨TE, hR6, hF1, hul⟩ := HT2.out
              refine TE.leave_err (by omega) HW6.out rfl rfl ?_
              intro w7 hM7 hs7
              have hR7 : R = (N1.undo k U.reverse, (k : Int), 11) := by rw [hR6]; simp only [Mm.fillU, stackL]; rw [show ByteArray.empty = ⟨#[]⟩ from rfl, ← hF1]; simp
              rw [hR7]
              exact ⟨hM7, hs7, .inr ⟨by simp, rfl⟩⟩
          · obtain ⟨N, U, i1, i2, i3, i4, i5, i6, i7, i8, i9, i10⟩ := (HJ2.out _).1 hJ
            refine ⟨⟨_, rfl⟩, .inr ⟨.ret, i8, fun Z2 hs2 _ => ?_⟩⟩
            have hLW := (Array.getElem?_eq_some_iff.1 i8).1
            have hDW := (Array.getElem?_eq_some_iff.1 i9).1
            have hLn : ∀ b t n, W9.shape? b = some (t, n) → b ≠ L2 := fun b t n h e => by
              have := shape_none i8 (by obtain ⟨r, hr⟩ := hrec .done (some .ret); rw [hr]; rfl)
              rw [e, this] at h; cases h
            obtain ⟨zB2, zV2, hRX, s8X, hwkb, hs1b, hs1c, ps1, hsafe, shX, hDX2, hDq⟩ := HFIN2.out
            obtain ⟨zB1, zV1, hz8, hz7, hsb, hRX0, s8X0, s780, hwkb0, hs1b0, hs1c0, ps10, hsafe0, shX0⟩ := HFIN.out
            obtain ⟨sY, hzY, FY, i5', u6⟩ := HSY.out
            have hDlt := (Array.getElem?_eq_some_iff.1 HY8.out.2).1
            have g1 := i1.same hs2 (by omega) (by omega)
            have g2 := i2.same hs2 (fun b hb => .inr fun t' m h => (hLn b t' m h hb).elim)
            have g5 := hs2.cell i5 (by simp; omega)
            have g6 := i6.same hs2 (by omega)
            have g7 := i7.trans (hs2.mono (T := fun b => b = fb ∨ w.heap.size ≤ b) (fun b _ e => .inr (by omega)))
            have g9 := hs2.block i9 (by omega)
            have g10 := hs2.block i10 (by omega)
            have hzz := hs2.size
            have HGG := Lib.hid (And.intro i4 (And.intro g1 (And.intro g2 (And.intro g5 (And.intro g6 (And.intro g7 (And.intro g9 g10)))))))
            clear i1 i2 i4 i5 i6 i7 i8 i9 i10 hs2 hLn g1 g2 g5 g6 g7 g9 g10 hJ hLW hDW zB1 zV1 hz8 hz7 hsb hRX s8X hs1b hs1c ps1 hsafe shX zB2 zV2 hDX2 hDq hRX0 s8X0 s780 hwkb0 hs1b0 hs1c0 ps10 hsafe0 shX0 sY hzY FY i5' u6 hDlt
            gi_wp2
            obtain ⟨i4, g1, g2, g5, g6, g7, g9, g10⟩ := HGG.out
            have hDn : ∀ b t n, Z2.shape? b = some (t, n) → b ≠ D2 ∧ b ≠ D := fun b t n h => by
              have q1 := shape_none g9 rfl
              have q2 := shape_none g10 rfl
              refine ⟨fun e => ?_, fun e => ?_⟩
              · rw [e, q1] at h; cases h
              · rw [e, q2] at h; cases h
            obtain ⟨zB2, zV2, hRX, s8X, hwkb, hs1b, hs1c, ps1, hsafe, shX, hDX2, hDq⟩ := HFIN2.out
            obtain ⟨zB1, zV1, hz8, hz7, hsb, hRX0, s8X0, s780, hwkb0, hs1b0, hs1c0, ps10, hsafe0, shX0⟩ := HFIN.out
            obtain ⟨sY, hzY, FY, i5', u6⟩ := HSY.out
            have hDlt := (Array.getElem?_eq_some_iff.1 HY8.out.2).1
            refine leaves_cons g9 (fun W3 hs3 hz3 => ?_)
            refine leaves_cons (hs3.block g10 (by omega)) (fun W4 hs4 hz4 => ?_)
            have hs34 : Same (fun b => b = D2 ∨ b = D) Z2 W4 := (hs3.mono (fun _ _ h => .inl h)).trans (hs4.mono (fun _ _ h => .inr h))
            have hM3 := g1.same hs34 (by omega) (by omega)
            have hW3 := g2.same hs34 (fun b hb => .inr fun t' m h => by have := hDn b t' m h; omega)
            have fe3 := hs34.cell g5 (by simp; omega)
            have hF3 := g6.same hs34 (by omega)
            refine leavesM_call (f := 83) (args := #[.pointer (some ⟨wk, 0, none⟩), .pointer (some ⟨w.heap.size + 1, 0, none⟩)]) (by simp [go_sem]) ?_
            refine (ends_err hM3 hW3 (by omega) fe3 (by omega)).mono ?_
            rintro e u' w7 ⟨rfl, ⟨v, rfl⟩, hM7, hs7⟩
            obtain ⟨k0, k1, k2, k3, k4, -⟩ := hF3.same hs7 (by omega)
            refine leaves_nil (results_cells2 rfl (by rfl) (by rfl) (loadVar75 _ _ _ _ _ _ _ k0 k1 k2 k3 k4) (loadVar25 _ _ _ (hs7.cell fe3 (by simp; omega)))) ?_
            rw [i4]
            refine ⟨hM7, ?_, .inr ⟨by simp, rfl⟩⟩
            have hSw := HX.out.2.2.2.2.2.2
            have sX : Same (fun b => b = fb ∨ w.heap.size ≤ b) w X1 := hSw.trans' ((HS57.out.1.trans (s780.trans s8X0)).mono (T := fun b => b = fb ∨ w.heap.size ≤ b) (fun _ _ h => h.elim)) (fun b h _ => h)
            have sX2 : Same (fun b => b = fb ∨ w.heap.size ≤ b) w X2 := (sX.trans (sq_base sY (by omega) (by omega) (by omega) (by omega))).trans (s8X.mono (T := fun b => b = fb ∨ w.heap.size ≤ b) (fun _ _ h => h.elim))
            exact (((sX2.trans g7).trans (hs34.mono (T := fun b => b = fb ∨ w.heap.size ≤ b) (fun b _ e => .inr (by omega)))).trans (hs7.mono (T := fun b => b = fb ∨ w.heap.size ≤ b) (fun b _ h => .inl h))).mono (fun b hb h => by omega)
      · obtain ⟨N, U, i1, i2, i3, i4, i5, i6, i7, i8, i9⟩ := (HJ1.out _).1 hJ
        refine ⟨⟨_, rfl⟩, .inr ⟨.ret, i8, fun W2 hs2 _ => ?_⟩⟩
        have hLW := (Array.getElem?_eq_some_iff.1 i8).1
        have hDW := (Array.getElem?_eq_some_iff.1 i9).1
        have hLn : ∀ b t n, W.shape? b = some (t, n) → b ≠ L := fun b t n h e => by
          have := shape_none i8 (by obtain ⟨r, hr⟩ := hrec .done (some .ret); rw [hr]; rfl)
          rw [e, this] at h; cases h
        obtain ⟨zB1, zV1, hz8, hz7, hsb, hRX, s8X, s78, hwkb, hs1b, hs1c, ps1, hsafe, shX⟩ := HFIN.out
        have g1 := i1.same hs2 (by omega) (by omega)
        have g2 := i2.same hs2 (fun b hb => .inr fun t' m h => (hLn b t' m h hb).elim)
        have g5 := hs2.cell i5 (by simp; omega)
        have g6 := i6.same hs2 (by omega)
        have g7 := i7.trans (hs2.mono (T := fun b => b = fb ∨ w.heap.size ≤ b) (fun b _ e => .inr (by omega)))
        have g9 := hs2.block i9 (by omega)
        have hzz := hs2.size
        have HGG := Lib.hid (And.intro i4 (And.intro g1 (And.intro g2 (And.intro g5 (And.intro g6 (And.intro g7 g9))))))
        clear i1 i2 i4 i5 i6 i7 i8 i9 hs2 hLn g1 g2 g5 g6 g7 g9 hJ hLW hDW zB1 zV1 hz8 hz7 hsb hRX s8X s78 hs1b hs1c ps1 hsafe shX
        gi_wp2
        obtain ⟨i4, g1, g2, g5, g6, g7, g9⟩ := HGG.out
        have hDn : ∀ b t n, W2.shape? b = some (t, n) → b ≠ D := fun b t n h e => by
          have := shape_none g9 rfl
          rw [e, this] at h; cases h
        refine leaves_cons g9 (fun W3 hs3 hz3 => ?_)
        obtain ⟨zB1, zV1, hz8, hz7, hsb, hRX, s8X, s78, hwkb, hs1b, hs1c, ps1, hsafe, shX⟩ := HFIN.out
        have hM3 := g1.same hs3 (by omega) (by omega)
        have hW3 := g2.same hs3 (fun b hb => .inr fun t' m h => (hDn b t' m h hb).elim)
        have fe3 := hs3.cell g5 (by simp; omega)
        have hF3 := g6.same hs3 (by omega)
        refine leavesM_call (f := 83) (args := #[.pointer (some ⟨wk, 0, none⟩), .pointer (some ⟨w.heap.size + 1, 0, none⟩)]) (by simp [go_sem]) ?_
        refine (ends_err hM3 hW3 (by omega) fe3 (by omega)).mono ?_
        rintro e u' w7 ⟨rfl, ⟨v, rfl⟩, hM7, hs7⟩
        obtain ⟨k0, k1, k2, k3, k4, -⟩ := hF3.same hs7 (by omega)
        refine leaves_nil (results_cells2 rfl (by rfl) (by rfl) (loadVar75 _ _ _ _ _ _ _ k0 k1 k2 k3 k4) (loadVar25 _ _ _ (hs7.cell fe3 (by simp; omega)))) ?_
        rw [i4]
        refine ⟨hM7, ?_, .inr ⟨by simp, rfl⟩⟩
        have hSw := HX.out.2.2.2.2.2.2
        have sX : Same (fun b => b = fb ∨ w.heap.size ≤ b) w X1 := hSw.trans' ((HS57.out.1.trans (s78.trans s8X)).mono (T := fun b => b = fb ∨ w.heap.size ≤ b) (fun _ _ h => h.elim)) (fun b h _ => h)
        exact (((sX.trans g7).trans (hs3.mono (T := fun b => b = fb ∨ w.heap.size ≤ b) (fun b _ e => .inr (by omega)))).trans (hs7.mono (T := fun b => b = fb ∨ w.heap.size ≤ b) (fun b _ h => .inl h))).mono (fun b hb h => by omega)
end Go.Proofs.Ytlbgnmcjdmdjpaa
open Go Go.Proofs
namespace Go.Proofs.Ytlbgnmcjdmdjpaa
/-- Three bytes made a string. -/
theorem conv3 (w : World) (a b : Nat) (ha : a ≤ 255) (hb : b ≤ 255) :
    (convert 66 9 (.slice (some ⟨w.heap.size, 0, none⟩) 3 3)).run Try.prog (w.alloc (.cells #[.int .u8 88, .int .u8 (a : Int), .int .u8 (b : Int)] 5)) = .ok (.string ⟨#[88, UInt8.ofNat a, UInt8.ofNat b]⟩) (w.alloc (.cells #[.int .u8 88, .int .u8 (a : Int), .int .u8 (b : Int)] 5)) := by
  have h := run_convert_bytes_back (P := Try.prog) (w.alloc (.cells #[.int .u8 88, .int .u8 (a : Int), .int .u8 (b : Int)] 5)) 66 9 5 ⟨w.heap.size, 0, none⟩ 3 [88, UInt8.ofNat a, UInt8.ofNat b] Try.underlying66 Try.underlying5 Try.underlying9 (by
    intro j hj
    have e1 : (UInt8.ofNat a).toNat = a := by simp; omega
    have e2 : (UInt8.ofNat b).toNat = b := by simp; omega
    have h3 : j < 3 := by simpa using hj
    have hj3 : j = 0 ∨ j = 1 ∨ j = 2 := by omega
    rcases hj3 with rfl | rfl | rfl
    · simp [go_sem, Addr.add]
    · simp only [List.getElem_cons_succ, List.getElem_cons_zero, e1]; simp [go_sem, Addr.add]
    · simp only [List.getElem_cons_succ, List.getElem_cons_zero, e2]; simp [go_sem, Addr.add])
  exact h
/-- A text's or data's first two hundred bytes. -/
def cut200 (t : ByteArray) : ByteArray := t.extract 0 (min (t.size : Int) 200).toNat
theorem cut200_size (t : ByteArray) : (cut200 t).size = min t.size 200 := by
  unfold cut200; rw [ByteArray.size_extract]; omega
/-- An image. -/
def imgOf (t d : ByteArray) : ByteArray := ⟨#[88, UInt8.ofNat (cut200 t).size, UInt8.ofNat (cut200 d).size]⟩ ++ cut200 t ++ cut200 d
set_option maxHeartbeats 3200000 in
set_option maxRecDepth 16384 in
theorem image_any (w : World) (t d : ByteArray) :
    Calls Try.prog 47 #[.string t, .string d] w fun e w' => e = .returned (.string (imgOf t d)) ∧ Same (fun _ => False) w w' := by
  have ht := cut200_size t
  have hd := cut200_size d
  unfold cut200 at ht hd
  rw [ByteArray.size_extract] at ht hd
  simp only [Nat.sub_zero] at ht hd
  have hcv := conv3 w (min t.size 200) (min d.size 200) (by omega) (by omega)
  refine calls_of_wp Try.func47 rfl ?_
  simp only [Try.ntmps47, List.size_toArray, List.length_cons, List.length_nil, Nat.reduceAdd, Nat.reduceSub, Array.replicate_succ, Array.replicate_zero, List.push_toArray, List.append_toArray, List.nil_append, List.cons_append]
  go_wp2
  go_ret
  refine ⟨?_, same_alloc _⟩
  unfold imgOf cut200
  simp only [ByteArray.size_extract, Nat.sub_zero, ht, hd]
  rfl
theorem imgOf_data (t d : ByteArray) : (imgOf t d).data.toList = [88, UInt8.ofNat (cut200 t).size, UInt8.ofNat (cut200 d).size] ++ (cut200 t).data.toList ++ (cut200 d).data.toList := by
  unfold imgOf
  rw [ByteArray.data_append, ByteArray.data_append, Array.toList_append, Array.toList_append]
theorem imgOf_size (t d : ByteArray) : (imgOf t d).size = 3 + (cut200 t).size + (cut200 d).size := by
  unfold imgOf
  rw [ByteArray.size_append, ByteArray.size_append]
  rfl
theorem imgOf_ok (t d : ByteArray) : ImgOk (imgOf t d) (cut200 t).size (cut200 d).size := by
  have h1 := cut200_size t
  have h2 := cut200_size d
  refine ⟨by rw [imgOf_data]; rfl, ⟨UInt8.ofNat (cut200 t).size, by rw [imgOf_data]; rfl, ?_⟩, ⟨UInt8.ofNat (cut200 d).size, by rw [imgOf_data]; rfl, ?_⟩, imgOf_size t d⟩
  · simp; omega
  · simp; omega
theorem imgOf_text (t d : ByteArray) : (imgOf t d).extract 3 (3 + (cut200 t).size) = cut200 t := by
  apply ByteArray.ext
  apply Array.toList_inj.1
  rw [ByteArray.data_extract, Array.toList_extract, imgOf_data, List.extract_eq_take_drop]
  simp [List.drop_append, List.take_append]
theorem imgOf_rest (t d : ByteArray) : (imgOf t d).extract (3 + (cut200 t).size) (imgOf t d).size = cut200 d := by
  apply ByteArray.ext
  apply Array.toList_inj.1
  rw [ByteArray.data_extract, Array.toList_extract, imgOf_size, imgOf_data, List.extract_eq_take_drop]
  have e : ∀ n : Nat, 3 + n = n + 1 + 1 + 1 := fun n => by omega
  have l1 : (cut200 t).data.toList.length = (cut200 t).size := by simp
  have l2 : (cut200 d).data.toList.length = (cut200 d).size := by simp
  rw [Nat.add_sub_cancel_left, e]
  simp only [List.cons_append, List.nil_append, List.drop_succ_cons]
  rw [List.drop_left' l1, List.take_of_length_le (by omega)]
/-- Exec of an image that was made. -/
theorem exec_img {w : World} {f fb : Nat} {M : Mm} (hM : MemAt w f fb M) (t d : ByteArray) :
    Calls Try.prog 46 #[.pointer (some ⟨f, 0, none⟩), .string (imgOf t d)] w fun e w' => MemAt w' f fb (M.exec (cut200 t) (cut200 d)).1 ∧ Same (· = fb) w w' ∧
      (((M.exec (cut200 t) (cut200 d)).2.2 = 0 ∧ e = .returned (.tuple #[.agg #[.int .i64 (M.exec (cut200 t) (cut200 d)).2.1, .int .i64 (spn 0 (cut200 t).size), .int .i64 (spn 0 (cut200 d).size), .int .i64 0, .slice none 0 0], .int .i64 0])) ∨
      ((M.exec (cut200 t) (cut200 d)).2.2 ≠ 0 ∧ e = .returned (.tuple #[noSpc, .int .i64 11]))) := by
  have h1 := cut200_size t
  have h2 := cut200_size d
  have h := exec_ok hM (imgOf t d) _ _ (by omega) (by omega) (imgOf_ok t d)
  rw [imgOf_text, imgOf_rest] at h
  exact h
end Go.Proofs.Ytlbgnmcjdmdjpaa
open Go Go.Proofs
namespace Go.Proofs.Ytlbgnmcjdmdjpaa
def m20 : Mm := ⟨20, fun _ => 0, fun _ _ => 0⟩
def sz65 : ByteArray := ⟨(List.replicate 65 (0 : UInt8)).toArray⟩
def sd1 : ByteArray := ⟨#[100]⟩
set_option maxRecDepth 100000 in
theorem m20_exec : (m20.exec (cut200 sz65) (cut200 sd1)).2 = (0, 0) := by decide +kernel
set_option maxRecDepth 100000 in
theorem m20_left : nfree (m20.exec (cut200 sz65) (cut200 sd1)).1.R (m20.exec (cut200 sz65) (cut200 sd1)).1.n = 12 := by decide +kernel
theorem sz65_spn : spn 0 (cut200 sz65).size = 2 := by rw [cut200_size]; rfl
theorem sd1_spn : spn 0 (cut200 sd1).size = 1 := by rw [cut200_size]; rfl
def z65c : Array Value := madeCells #[.int .u8 0] 65
theorem infoU8 : (Try.prog.info? 5).map (fun i => (i.zero, i.size, i.bytes)) = some (some (.int .u8 0), 1, 1) := by kernel_rfl
theorem make65 (w : World) : (Instr.makeSlice 66 (.int .i64 65) (.int .i64 65)).run Try.prog w = .ok (.slice (some ⟨w.heap.size, 0, none⟩) 65 65) (w.alloc (.cells z65c 5)) := by
  obtain ⟨i, hi, h1, h2, h3⟩ := info_parts infoU8
  have := run_make (P := Try.prog) w 66 5 i _ Try.underlying66 hi h1 .i64 .i64 65 65 (by omega) (by omega) (by rw [h3]; omega) (by omega)
  rw [h2] at this
  exact this
theorem z65c_get (j : Nat) (hj : j < 65) : z65c[j]? = some (.int .u8 0) := by
  unfold z65c madeCells
  rw [Array.getElem?_map, Array.getElem?_range, if_pos hj]
  simp [Nat.mod_one]
theorem conv65 (w : World) (b : Nat) (h : ∀ j, j < 65 → w.cell? ⟨b, j, none⟩ = some (.int .u8 0)) : (convert 66 9 (.slice (some ⟨b, 0, none⟩) 65 65)).run Try.prog w = .ok (.string sz65) w := by
  have := run_convert_bytes_back (P := Try.prog) w 66 9 5 ⟨b, 0, none⟩ 65 (List.replicate 65 (0 : UInt8)) Try.underlying66 Try.underlying5 Try.underlying9 (by
    intro j hj
    have hj' : j < 65 := by simpa using hj
    have e : (⟨b, 0, none⟩ : Addr).add j = ⟨b, j, none⟩ := by unfold Addr.add; by_cases h : j = 0 <;> simp [h]
    rw [e, h j hj', List.getElem_replicate]
    rfl)
  rw [List.length_replicate] at this
  exact this
theorem made65_cell (w : World) (j : Nat) (hj : j < 65) : (w.alloc (.cells z65c 5)).cell? ⟨w.heap.size, j, none⟩ = some (.int .u8 0) := by
  have := z65c_get j hj
  simp [go_sem, this]
set_option maxHeartbeats 3200000 in
set_option maxRecDepth 16384 in
theorem shown4 (w : World) : Calls Try.prog 45 #[] w fun e w' => e = .returned (.bool true) ∧ Same (fun _ => False) w w' := by
  refine calls_of_wp Try.func45 rfl ?_
  simp only [Try.ntmps45, List.size_toArray, List.length_cons, List.length_nil, Nat.reduceAdd, Nat.reduceSub, Array.replicate_succ, Array.replicate_zero, List.push_toArray, List.append_toArray, List.nil_append, List.cons_append]
  go_wp2_with fail
  refine (new_any w 20 (by omega) (by omega)).mono ?_
  rintro e w1 ⟨f, fb, rfl, hf, hfb, hM, hs1⟩
  have hlt := hM.lt
  have hmk := make65 w1
  have hcv := conv65 (w1.alloc (.cells z65c 5)) w1.heap.size (fun j hj => made65_cell w1 j hj)
  have HM := Lib.hid (And.intro hM (And.intro hs1 (And.intro hlt (And.intro hf hfb))))
  clear hM hs1 hlt hf hfb
  go_wp2_with fail
  refine (image_any _ sz65 sd1).mono ?_
  rintro e w2 ⟨rfl, hs2⟩
  obtain ⟨hM, hs1, hlt, hf, hfb⟩ := HM.out
  have hM2 : MemAt w2 f fb m20 := (hM.same0 (same_alloc _)).same0 hs2
  have hx := exec_img hM2 sz65 sd1
  obtain ⟨⟨N, x1, x2⟩, hN⟩ : ∃ y, y = m20.exec (cut200 sz65) (cut200 sd1) := ⟨_, rfl⟩
  have hN2 := m20_exec
  have hN3 := m20_left
  rw [← hN] at hx hN2 hN3
  cases hN2
  simp only at hx hN3
  rw [sz65_spn, sd1_spn] at hx
  have HQ := Lib.hid (And.intro hN3 (hs1.trans ((same_alloc _).trans hs2)))
  clear hM hs1 hlt hM2 hN hN3 hs2 hf hfb
  go_wp2_with fail
  refine hx.mono ?_
  rintro e w3 ⟨hM3, hs3, ⟨-, rfl⟩ | ⟨h, -⟩⟩
  rotate_left
  · exact (h rfl).elim
  have HK := Lib.hid (And.intro hM3 hs3)
  clear hx hM3 hs3 hmk hcv
  go_wp2_with fail
  obtain ⟨hM3, hs3⟩ := HK.out
  obtain ⟨W4, hW4⟩ : ∃ W4, W4 = w3.alloc (.cells #[.int .i64 0, .int .i64 2, .int .i64 1, .int .i64 0, .slice none 0 0] 75) := ⟨_, rfl⟩
  rw [← hW4]
  have hM4 : MemAt W4 f fb N := by rw [hW4]; exact hM3.same0 (same_alloc _)
  have k0 : W4.cell? ⟨w3.heap.size, 0, none⟩ = some (.int .i64 0) := by rw [hW4]; simp [go_sem]
  have k1 : W4.cell? ⟨w3.heap.size, 1, none⟩ = some (.int .i64 2) := by rw [hW4]; simp [go_sem]
  have k2 : W4.cell? ⟨w3.heap.size, 2, none⟩ = some (.int .i64 1) := by rw [hW4]; simp [go_sem]
  refine (exec_bad hM4 ⟨#[]⟩ (by decide) (fun n1 n2 h => by have := h.sz; simp [ByteArray.size] at this; omega)).mono ?_
  rintro e w5 ⟨rfl, hs5⟩
  have j0 := hs5.cell k0 (by simp)
  have j1 := hs5.cell k1 (by simp)
  have j2 := hs5.cell k2 (by simp)
  have i1 := (same_alloc (W := w5) (.cells #[.int .i64 0, .int .i64 0, .int .i64 0, .int .i64 0, .slice none 0 0] 75)).cell j1 (by simp)
  have i2 := (same_alloc (W := w5) (.cells #[.int .i64 0, .int .i64 0, .int .i64 0, .int .i64 0, .slice none 0 0] 75)).cell j2 (by simp)
  have hM5 := hM4.same0 hs5
  have hl6 := left_any (hM5.same0 (same_alloc (.cells #[.int .i64 0, .int .i64 0, .int .i64 0, .int .i64 0, .slice none 0 0] 75)))
  rw [HQ.out.1] at hl6
  have s35 : Same (fun _ => False) w3 w5 := by rw [hW4] at hs5; exact (same_alloc _).trans hs5
  have HZ := Lib.hid (And.intro hM5 s35)
  clear hM3 hs3 hW4 hM4 k0 k1 k2 hs5 hM5 s35 j0 j1 j2
  go_wp2_with fail
  all_goals refine hl6.mono ?_
  all_goals rintro e w7 ⟨rfl, hs7⟩
  all_goals go_wp2
  all_goals go_ret
  all_goals
    obtain ⟨hM5, s35⟩ := HZ.out
    obtain ⟨hM3, hs3⟩ := HK.out
    obtain ⟨-, s2⟩ := HQ.out
    obtain ⟨-, -, -, -, hfb⟩ := HM.out
    have s5 := hs3.trans ((s35.trans ((same_alloc _).trans hs7)).mono (T := (· = fb)) (fun _ _ h => h.elim))
    exact ⟨rfl, s2.trans' s5 (fun b hb hlt => by omega)⟩
end Go.Proofs.Ytlbgnmcjdmdjpaa
open Go Go.Proofs
namespace Go.Proofs.Ytlbgnmcjdmdjpaa
theorem Mm.Tree.get_root {M : Mm} {r : Nat} {T : Nat → Option Nat} {cu : Nat} (h : M.Tree r T cu) (i : Nat) : M.get r i = M.ent r i := by
  have := Mm.isUsed_nat h.rn (by have := h.rR; omega)
  simp [Mm.get, this]
theorem Mm.Tree.get_tab {M : Mm} {r : Nat} {T : Nat → Option Nat} {cu : Nat} (h : M.Tree r T cu) {i k : Nat} (hT : T i = some k) (j : Nat) : M.get k j = M.ent k j := by
  obtain ⟨a, b, c, d⟩ := h.tb i k hT
  have := Mm.isUsed_nat b (by omega)
  simp [Mm.get, this]
/-- A page is mapped where there is room. -/
theorem Mm.Tree.map_ok {M : Mm} {r : Nat} {T : Nat → Option Nat} {cu : Nat} (h : M.Tree r T cu) {p k fl : Nat} (hp : p < 256) (hk : k < 256) (hf7 : fl ≤ 7) (hf2 : fl % 2 = 1) (h0 : (M.lk r p).1 = 0) (hl : M.least ≠ none) : (M.map r p k fl).2 = 0 := by
  unfold Mm.map
  have hc : M.check r p = 0 := by rw [h.check, if_pos ⟨by omega, by omega⟩]
  rw [hc, if_neg (by simp), if_neg (by intro hx; exact hx ⟨⟨by omega, by omega⟩, ⟨by omega, by omega⟩, by omega⟩)]
  have e1 : ((p : Int).toNat / 16) = p / 16 := by omega
  have e2 : ((p : Int).toNat % 16) = p % 16 := by omega
  rw [e1, e2, h.get_root]
  have hlk := Mm.lk_tree h hp
  cases hT : T (p / 16) with
  | none =>
    rw [h.top0 _ (by omega) hT, if_pos rfl]
    cases hm : M.least with
    | none => exact absurd hm hl
    | some x =>
      simp only [Int.toNat_natCast]
      rw [(Mm.map_new h (i := p / 16) (by omega) hT hm (j := p % 16) (fl := fl) (fr := k) (by omega) (by omega) (by omega) (by omega)).1]
  | some x =>
    rw [h.top1 _ x hT, if_neg (by simp)]
    rw [hT] at hlk
    simp only at hlk
    rw [hlk] at h0
    have := h.low _ x (p % 16) hT (by omega) h0
    unfold Mm.mapLow
    simp only [h.get_tab hT, this, if_true]
theorem Mm.room {M : Mm} (h : 0 < nfree M.R M.n) : ∃ k, M.least = some k := by
  cases hm : M.least with
  | some k => exact ⟨k, rfl⟩
  | none =>
    have := nfree_zero (R := M.R) M.n (fun i hi => by
      unfold Mm.least at hm
      rw [List.find?_eq_none] at hm
      have := hm i (List.mem_range.2 hi)
      simp at this
      omega)
    omega
/-- A space at a root, each of its pages of a frame of its own. -/
structure Mm.One (M : Mm) (r cu : Nat) : Prop where
  ex : ∃ T, M.Tree r T cu ∧ M.Data r T
/-- A fresh page. -/
structure Mm.Fresh (M N : Mm) (r p k : Nat) (fl : Int) : Prop where
  n : N.n = M.n
  kn : k < M.n
  k0 : M.R k ≤ 0
  k1 : N.R k = 1
  at_ : N.walk r p = ((k : Int), fl, 0)
  else_ : ∀ q : Int, q ≠ p → N.walk r q = M.walk r q
  zero : ∀ o, N.B k o = 0
  keep : ∀ (q : Int) (y : Nat), (M.walk r q).2.2 = 0 → (M.walk r q).1 = y → y ≠ k ∧ ∀ o, N.B y o = M.B y o
theorem Mm.One.fresh {M : Mm} {r cu : Nat} (h : M.One r cu) {p fl : Nat} (hp : p < 256) (hf7 : fl ≤ 7) (hf2 : fl % 2 = 1) (h0 : (M.lk r p).1 = 0) (hroom : 2 ≤ nfree M.R M.n) :
    ∃ k : Nat, (M.fresh r p fl).2 = ((k : Int), 0) ∧ (M.fresh r p fl).1.One r (cu + 1) ∧ M.Fresh (M.fresh r p fl).1 r p k fl := by
  obtain ⟨T, ht, hd⟩ := h.ex
  obtain ⟨k, hl⟩ := M.room (by omega)
  obtain ⟨hk, hz, _⟩ := Mm.least_spec hl
  have hn2 := ht.n2
  have ht1 := ht.alloc hk hz
  have hw1 : ∀ p : Int, (M.alloc k).walk r p = M.walk r p := fun p => ht.alloc_walk hk hz p
  have hT1 : ∀ i y, T i = some y → y ≠ k := by intro x y hx e; subst e; have := (ht.tb _ _ hx).2.2.2; omega
  have R1 : ∀ x, (M.alloc k).R x = if x = k then 1 else M.R x := fun x => rfl
  have hrk : (M.alloc k).R k = 1 := by rw [R1, if_pos rfl]
  have hkr : k ≠ r := by intro e; subst e; have := ht.rR; omega
  have hnf := nfree_take (R := M.R) (R' := (M.alloc k).R) hk (by omega) (by rw [hrk]; omega) (fun i hi => by rw [R1, if_neg hi])
  obtain ⟨k', hl'⟩ := (M.alloc k).room (by show 0 < nfree (M.alloc k).R M.n; omega)
  have hl0 : ((M.alloc k).lk r p).1 = 0 := by rw [ht.alloc_lk hk hz hp]; exact h0
  have hok := ht1.map_ok hp (k := k) (by omega) hf7 hf2 hl0 (by rw [hl']; simp)
  have hml := Mm.map_law ht1 (p : Int) (k : Int) (fl : Int)
  have he : M.fresh r p fl = (((M.alloc k).map r p k fl).1, (k : Int), 0) := by
    unfold Mm.fresh
    rw [hl]
    simp only [Mm.maps, hok, if_true]
  rw [he]
  rcases hml with ⟨h1, _⟩ | ⟨_, x, hx', hx, hf0, hlk0, ⟨T', ht', hkp⟩, hn', hlk, hoth⟩
  · exact absurd hok h1
  · have hpx : x = p := by omega
    subst hpx
    generalize (M.alloc k).map r (x : Int) (k : Int) fl = MM at *
    have hwx : MM.1.walk r (x : Int) = ((k : Int), (fl : Int), 0) := by
      rw [ht'.walk hx, hlk, if_neg hf0]
    have hwo : ∀ q : Int, q ≠ x → MM.1.walk r q = M.walk r q := by
      intro q hq
      rw [← hw1 q]
      by_cases hr : 0 ≤ q ∧ q ≤ 255
      · obtain ⟨y, rfl⟩ := Int.eq_ofNat_of_zero_le hr.1
        rw [ht'.walk (p := y) (by omega), ht1.walk (p := y) (by omega), hoth y (by omega) (by omega)]
      · rw [ht'.walk_out hr, ht1.walk_out hr]
    have hkT' : ∀ i, T' i ≠ some k := by
      intro i hi
      rcases hkp.keepT i k hi with h | h
      · exact hT1 i k h rfl
      · rw [hrk] at h; exact h (by decide)
    have hd1 : ∀ q : Int, (M.walk r q).2.2 = 0 → ∃ y : Nat, (M.walk r q).1 = y ∧ y < M.n ∧ 0 < M.R y ∧ y ≠ r ∧ (∀ i, T i ≠ some y) ∧ y ≠ k ∧ 0 < (M.alloc k).R y := fun q hq => by
      obtain ⟨y, a1, a2, a3, a4, a5⟩ := hd.fr q hq
      have : y ≠ k := by intro e; subst e; omega
      exact ⟨y, a1, a2, a3, a4, a5, this, by rw [R1, if_neg this]; exact a3⟩
    refine ⟨k, rfl, ⟨T', ht', ⟨fun q hq => ?_, fun q q' hq hq' hqq => ?_⟩⟩, ⟨hn', hk, hz, by rw [hkp.keepR k (by rw [hrk]; decide) (fun i hi => hT1 i k hi rfl)]; exact hrk, hwx, hwo, fun o => ?_, fun q y hq hy => ?_⟩⟩
    · by_cases e : q = x
      · subst e
        rw [hwx]
        exact ⟨k, rfl, by rw [hn']; exact hk, by rw [hkp.keepR k (by rw [hrk]; decide) (fun i hi => hT1 i k hi rfl), hrk]; decide, hkr, hkT'⟩
      · rw [hwo q e] at hq ⊢
        obtain ⟨y, a1, a2, a3, a4, a5, a6, a7⟩ := hd1 q hq
        refine ⟨y, a1, by rw [hn']; exact a2, by rw [hkp.keepR y a7 a5]; exact a7, a4, fun i hi => ?_⟩
        rcases hkp.keepT i y hi with h | h
        · exact a5 i h
        · exact h a7
    · have hold : ∀ q : Int, (M.walk r q).2.2 = 0 → (M.walk r q).1 ≠ k := fun q hq e => by
        obtain ⟨y, a1, a2, a3, a4, a5, a6, a7⟩ := hd1 q hq
        omega
      by_cases e : q = x <;> by_cases e' : q' = x
      · omega
      · exfalso
        subst e
        rw [hwx, hwo q' e'] at hqq
        rw [hwo q' e'] at hq'
        exact hold q' hq' hqq.symm
      · exfalso
        subst e'
        rw [hwx, hwo q e] at hqq
        rw [hwo q e] at hq
        exact hold q hq hqq
      · rw [hwo q e] at hq hqq
        rw [hwo q' e'] at hq' hqq
        exact hd.inj q q' hq hq' hqq
    · rw [hkp.keepB k (by rw [hrk]; decide) hkr (fun i hi => hT1 i k hi rfl)]
      simp [Mm.alloc]
    · obtain ⟨y', a1, a2, a3, a4, a5, a6, a7⟩ := hd1 q hq
      have : y = y' := by omega
      subst this
      refine ⟨a6, fun o => ?_⟩
      rw [hkp.keepB y a7 a4 a5]
      simp [Mm.alloc, a6]
theorem Mm.One.room {M : Mm} {r cu : Nat} (h : M.One r cu) (hc : cu + 18 ≤ M.n) : 2 ≤ nfree M.R M.n := by
  obtain ⟨T, ht, _⟩ := h.ex
  have c := ht.cnt
  have := tcnt_le T 16
  omega
/-- A page of bytes. -/
structure Mm.Filled (M N : Mm) (r p k : Nat) (fl : Int) (s : ByteArray) : Prop where
  n : N.n = M.n
  kn : k < M.n
  k0 : M.R k ≤ 0
  k1 : N.R k = 1
  at_ : N.walk r p = ((k : Int), fl, 0)
  else_ : ∀ q : Int, q ≠ p → N.walk r q = M.walk r q
  bytes : ∀ o, N.B k o = if o < s.size then (s.data.toList[o]?).getD 0 else 0
  keep : ∀ (q : Int) (y : Nat), (M.walk r q).2.2 = 0 → (M.walk r q).1 = y → y ≠ k ∧ ∀ o, N.B y o = M.B y o
theorem Mm.One.filled {M : Mm} {r cu : Nat} (h : M.One r cu) {p fl : Nat} (hp : p < 256) (hf7 : fl ≤ 7) (hf2 : fl % 2 = 1) (h0 : (M.lk r p).1 = 0) (hroom : 2 ≤ nfree M.R M.n) (s : ByteArray) :
    (M.filled r p fl s).2 = 0 ∧ (M.filled r p fl s).1.One r (cu + 1) ∧ ∃ k : Nat, M.Filled (M.filled r p fl s).1 r p k fl s := by
  obtain ⟨k, he, ⟨T, ht, hd⟩, hF⟩ := h.fresh hp hf7 hf2 h0 hroom
  generalize hM1 : M.fresh r p fl = MM at *
  obtain ⟨N, kk, ee⟩ := MM
  simp only at he ht hd hF
  cases he
  have hu : N.isUsed (k : Int) = true := Mm.isUsed_nat (by rw [hF.n]; exact hF.kn) (by rw [hF.k1]; decide)
  have hf : M.filled r p fl s = (N.wr k 0 s, 0) := by
    unfold Mm.filled
    rw [hM1]
    simp [Mm.write, hu]
  rw [hf]
  obtain ⟨y, a1, a2, a3, a4, a5⟩ := hd.fr p (by rw [hF.at_])
  have hyk : y = k := by rw [hF.at_] at a1; simp only at a1; omega
  subst hyk
  have hB : ∀ x o, x ≠ y → (N.wr y 0 s).B x o = N.B x o := fun x o hx => by simp [Mm.wr, hx]
  have hST : N.SameTab (N.wr y 0 s) r T := ⟨rfl, rfl, fun o => hB r o (fun e => a4 e.symm), fun i x hx o => hB x o (fun e => a5 i (by rw [hx, e]))⟩
  refine ⟨rfl, ⟨T, hST.tree ht, hd.same hST ht⟩, y, ⟨hF.n, hF.kn, hF.k0, hF.k1, ?_, fun q hq => ?_, fun o => ?_, fun q x hq hx => ?_⟩⟩
  · rw [hST.walk ht]; exact hF.at_
  · rw [hST.walk ht]; exact hF.else_ q hq
  · have := hF.zero o
    simp [Mm.wr, this]
  · obtain ⟨b1, b2⟩ := hF.keep q x hq hx
    exact ⟨b1, fun o => by rw [hB x o b1]; exact b2 o⟩
/-- What a page holds: its flags and its bytes. -/
def Mm.pgc (M : Mm) (r : Int) (q : Int) : Option (Int × (Nat → UInt8)) := if (M.walk r q).2.2 = 0 then some ((M.walk r q).2.1, fun o => M.B (M.walk r q).1.toNat o) else none
def pad (s : ByteArray) : Nat → UInt8 := fun o => if o < s.size then (s.data.toList[o]?).getD 0 else 0
theorem Mm.One.pgc_none {M : Mm} {r cu p : Nat} (h : M.One r cu) (hp : p < 256) (h0 : M.pgc r p = none) : (M.lk r p).1 = 0 := by
  obtain ⟨T, ht, _⟩ := h.ex
  unfold Mm.pgc at h0
  rw [ht.walk hp] at h0
  by_cases e : (M.lk r p).1 = 0
  · exact e
  · simp [e] at h0
theorem Mm.Filled.pgc {M N : Mm} {r p k cu : Nat} {fl : Int} {s : ByteArray} (h : M.Filled N r p k fl s) (hO : M.One r cu) : N.pgc r p = some (fl, pad s) ∧ ∀ q : Int, q ≠ p → N.pgc r q = M.pgc r q := by
  refine ⟨?_, fun q hq => ?_⟩
  · unfold Mm.pgc
    rw [h.at_]
    simp only [if_true, Int.toNat_natCast, Option.some.injEq, Prod.mk.injEq, true_and]
    funext o
    exact h.bytes o
  · unfold Mm.pgc
    rw [h.else_ q hq]
    by_cases e : (M.walk r q).2.2 = 0
    · obtain ⟨T, ht, hd⟩ := hO.ex
      obtain ⟨y, a1, _⟩ := hd.fr q e
      have := (h.keep q y e a1).2
      simp only [e, if_true, Option.some.injEq, Prod.mk.injEq, true_and]
      funext o
      rw [a1, Int.toNat_natCast]
      exact this o
    · simp only [e, if_false]
/-- Pages that are laid in one go. -/
def Lays (M : Mm) (r : Int) (l : List (Int × Int × ByteArray)) : Prop :=
  (∀ x ∈ l, ∃ p fl : Nat, x.1 = p ∧ x.2.1 = fl ∧ p < 256 ∧ fl ≤ 7 ∧ fl % 2 = 1 ∧ M.pgc r p = none) ∧ l.Pairwise (fun a b => a.1 ≠ b.1)
def lookI (l : List (Int × Int × ByteArray)) (q : Int) : Option (Int × (Nat → UInt8)) := (l.find? fun x => x.1 == q).map fun x => (x.2.1, pad x.2.2)
theorem Mm.One.fillU {r : Nat} : ∀ (l : List (Int × Int × ByteArray)) (M : Mm) (U : List Und) (cu : Nat), M.One r cu → Lays M r l → cu + l.length + 18 ≤ M.n →
    (M.fillU r U l).2 = 0 ∧ (M.fillU r U l).1.One r (cu + l.length) ∧ (M.fillU r U l).1.n = M.n ∧ ∀ q, (M.fillU r U l).1.pgc r q = (lookI l q).or (M.pgc r q)
  | [], M, U, cu, h, _, _ => ⟨rfl, h, rfl, fun q => by simp [Mm.fillU, lookI]⟩
  | (P, F, s) :: l, M, U, cu, h, hl, hn => by
    obtain ⟨p, fl, e1, e2, hp, hf7, hf2, h0⟩ := hl.1 _ (List.mem_cons_self ..)
    simp only at e1 e2
    subst e1
    subst e2
    rw [List.length_cons] at hn
    obtain ⟨g1, g2, k, g3⟩ := h.filled hp hf7 hf2 (h.pgc_none hp h0) (h.room (by omega)) s
    obtain ⟨g4, g5⟩ := g3.pgc h
    have hpw := List.pairwise_cons.1 hl.2
    have ih := Mm.One.fillU l (M.filled r p fl s).1 (U ++ [.page p]) (cu + 1) g2 ⟨fun x hx => by
      obtain ⟨p', fl', a1, a2, a3, a4, a5, a6⟩ := hl.1 x (List.mem_cons_of_mem _ hx)
      have := hpw.1 x hx
      exact ⟨p', fl', a1, a2, a3, a4, a5, by rw [g5 p' (by simp only at this; omega)]; exact a6⟩, hpw.2⟩ (by rw [g3.n]; omega)
    have hu : M.fillU r U ((↑p, ↑fl, s) :: l) = (M.filled r p fl s).1.fillU r (U ++ [.page p]) l := by
      rw [Mm.fillU, if_pos g1]
    rw [hu]
    obtain ⟨i1, i2, i3, i4⟩ := ih
    refine ⟨i1, by rw [List.length_cons, show cu + (l.length + 1) = cu + 1 + l.length by omega]; exact i2, i3.trans g3.n, fun q => ?_⟩
    rw [i4 q]
    by_cases e : q = p
    · subst e
      have hno : lookI l (p : Int) = none := by
        unfold lookI
        rw [List.find?_eq_none.2 (fun x hx => by have := hpw.1 x hx; simp only at this; simp; omega)]
        rfl
      rw [hno, g4]
      simp [lookI]
    · rw [g5 q e]
      have : ((p : Int) == q) = false := by simp; omega
      simp [lookI, List.find?_cons, this]
theorem Mm.one_new (n : Nat) (h1 : 1 ≤ n) (h2 : n ≤ 256) : ((Mm.mk n (fun _ => 0) (fun _ _ => 0)).alloc 0).One 0 1 ∧ ∀ q : Int, ((Mm.mk n (fun _ => 0) (fun _ _ => 0)).alloc 0).pgc (0 : Nat) q = none := by
  have ht := Mm.tree_new n h1 h2
  have hw : ∀ p : Int, (((Mm.mk n (fun _ => 0) (fun _ _ => 0)).alloc 0).walk (0 : Nat) p).2.2 ≠ 0 := by
    intro p
    by_cases hp : 0 ≤ p ∧ p ≤ 255
    · obtain ⟨q, rfl⟩ := Int.eq_ofNat_of_zero_le hp.1
      rw [ht.walk (p := q) (by omega), Mm.lk_tree ht (by omega)]
      simp
    · rw [ht.walk_out hp]; decide
  exact ⟨⟨⟨_, ht, ⟨fun p hp => absurd hp (hw p), fun p q hp => absurd hp (hw p)⟩⟩⟩, fun q => by unfold Mm.pgc; rw [if_neg (hw q)]⟩
theorem itemsL_len (fl : Int) : ∀ (l : List ByteArray) (p : Int), (itemsL p fl l).length = l.length
  | [], _ => rfl
  | _ :: l, p => by simp [itemsL, itemsL_len fl l]
theorem itemsL_mem (fl : Int) : ∀ (l : List ByteArray) (p : Nat) (x : Int × Int × ByteArray), x ∈ itemsL p fl l → ∃ i, i < l.length ∧ x.1 = ((p + i : Nat) : Int) ∧ x.2.1 = fl
  | [], _, _, h => by simp [itemsL] at h
  | s :: l, p, x, h => by
    rw [itemsL, List.mem_cons] at h
    rcases h with rfl | h
    · exact ⟨0, by simp, by simp, rfl⟩
    · obtain ⟨i, a, b, c⟩ := itemsL_mem fl l (p + 1) x (by simpa using h)
      exact ⟨i + 1, by simp; omega, by rw [b]; omega, c⟩
theorem itemsL_pw (fl : Int) : ∀ (l : List ByteArray) (p : Nat), (itemsL p fl l).Pairwise (fun a b => a.1 ≠ b.1)
  | [], _ => by simp [itemsL]
  | s :: l, p => by
    rw [itemsL, List.pairwise_cons]
    refine ⟨fun x hx => ?_, by have := itemsL_pw fl l (p + 1); simpa using this⟩
    obtain ⟨i, _, b, _⟩ := itemsL_mem fl l (p + 1) x (by simpa using hx)
    simp only
    omega
theorem leavesL_len : ∀ (n : Nat) (s : ByteArray), s.size ≤ n → (leavesL s).length = spn 0 s.size
  | 0, s, h => by rw [leavesL_zero (by omega), show s.size = 0 by omega]; rfl
  | n + 1, s, h => by
    by_cases h0 : s.size = 0
    · rw [leavesL_zero h0, h0]; rfl
    · have hk : lk s ≤ s.size ∧ (0 < lk s) ∧ (lk s = s.size ∨ lk s = 64) := by unfold lk; omega
      have hr := size_rest s (lk s) hk.1
      rw [leavesL_step (by omega), List.length_cons, leavesL_len n _ (by omega), hr]
      unfold spn
      rcases hk.2.2 with e | e
      · rw [e, if_pos (by omega), if_neg h0]; unfold lk at e; omega
      · rw [e]
        by_cases e2 : s.size = 64
        · rw [if_pos (by omega), if_neg h0]; omega
        · rw [if_neg (by unfold lk at e; omega), if_neg h0]; unfold lk at e; omega
theorem imgItems_lays {M : Mm} {r : Int} (hM : ∀ q, M.pgc r q = none) (t d : ByteArray) (ht : t.size ≤ 200) (hd : d.size ≤ 200) : Lays M r (imgItems t d) ∧ (imgItems t d).length ≤ 10 := by
  have l1 : (leavesL t).length ≤ 4 := by rw [leavesL_len _ t (Nat.le_refl _)]; unfold spn; split <;> omega
  have l2 : (leavesL d).length ≤ 4 := by rw [leavesL_len _ d (Nat.le_refl _)]; unfold spn; split <;> omega
  have m1 := itemsL_mem 1 (leavesL t) 0
  have m2 := itemsL_mem 3 (leavesL d) (leavesL t).length
  have ms : ∀ x ∈ stackL, (x.1 = 254 ∨ x.1 = 255) ∧ x.2.1 = 3 := by
    intro x hx
    simp only [stackL, List.mem_cons, List.not_mem_nil, or_false] at hx
    rcases hx with rfl | rfl <;> simp
  refine ⟨⟨fun x hx => ?_, ?_⟩, ?_⟩
  · unfold imgItems at hx
    rw [List.mem_append, List.mem_append] at hx
    rcases hx with hx | hx | hx
    · obtain ⟨i, a, b, c⟩ := m1 x hx
      exact ⟨0 + i, 1, b, c, by omega, by omega, by omega, hM _⟩
    · obtain ⟨i, a, b, c⟩ := m2 x hx
      exact ⟨(leavesL t).length + i, 3, b, c, by omega, by omega, by omega, hM _⟩
    · obtain ⟨a | a, c⟩ := ms x hx
      · exact ⟨254, 3, a, c, by omega, by omega, by omega, hM _⟩
      · exact ⟨255, 3, a, c, by omega, by omega, by omega, hM _⟩
  · unfold imgItems
    rw [List.pairwise_append, List.pairwise_append]
    refine ⟨itemsL_pw 1 (leavesL t) 0, ⟨itemsL_pw 3 (leavesL d) _, by simp [stackL], fun x hx y hy => ?_⟩, fun x hx y hy => ?_⟩
    · obtain ⟨i, a, b, c⟩ := m2 x hx
      have := (ms y hy).1
      omega
    · obtain ⟨i, a, b, c⟩ := m1 x hx
      rw [List.mem_append] at hy
      rcases hy with hy | hy
      · obtain ⟨j, a', b', c'⟩ := m2 y hy
        omega
      · have := (ms y hy).1
        omega
  · unfold imgItems
    rw [List.length_append, List.length_append, itemsL_len, itemsL_len]
    simp only [stackL, List.length_cons, List.length_nil]
    omega
/-- Exec on new memory. -/
theorem exec_new (n : Nat) (h1 : 29 ≤ n) (h2 : n ≤ 256) (t d : ByteArray) (ht : t.size ≤ 200) (hd : d.size ≤ 200) :
    ((Mm.mk n (fun _ => 0) (fun _ _ => 0)).exec t d).2 = (0, 0) ∧ ((Mm.mk n (fun _ => 0) (fun _ _ => 0)).exec t d).1.One 0 (1 + (imgItems t d).length) ∧ ((Mm.mk n (fun _ => 0) (fun _ _ => 0)).exec t d).1.n = n ∧
      ∀ q : Int, ((Mm.mk n (fun _ => 0) (fun _ _ => 0)).exec t d).1.pgc 0 q = lookI (imgItems t d) q := by
  obtain ⟨hO, hp⟩ := Mm.one_new n (by omega) h2
  obtain ⟨hL, hl⟩ := imgItems_lays hp t d ht hd
  obtain ⟨g1, g2, g3, g4⟩ := Mm.One.fillU (imgItems t d) _ [.root] 1 hO hL (by show _ ≤ n; omega)
  have hle : (Mm.mk n (fun _ => 0) (fun _ _ => 0)).least = some 0 := by
    obtain ⟨k, hk⟩ := (Mm.mk n (fun _ => 0) (fun _ _ => 0)).room (by
      have : ∀ m : Nat, nfree (fun _ => (0 : Int)) m = m := fun m => by
        induction m with
        | zero => rfl
        | succ m ih => simp [nfree, ih]
      show 0 < nfree (fun _ => (0 : Int)) n
      rw [this]; omega)
    obtain ⟨a, b, c⟩ := Mm.least_spec hk
    rw [hk]
    congr 1
    by_cases e : k = 0
    · exact e
    · have := c 0 (by omega)
      simp at this
  have he : (Mm.mk n (fun _ => 0) (fun _ _ => 0)).exec t d = ((((Mm.mk n (fun _ => 0) (fun _ _ => 0)).alloc 0).fillU ((0 : Nat) : Int) [.root] (imgItems t d)).1, ((0 : Nat) : Int), (((Mm.mk n (fun _ => 0) (fun _ _ => 0)).alloc 0).fillU ((0 : Nat) : Int) [.root] (imgItems t d)).2) := by
    unfold Mm.exec
    rw [hle]
  rw [he]
  refine ⟨by simp only [g1]; rfl, g2, g3, fun q => ?_⟩
  have := g4 q
  rw [hp q] at this
  have e : ∀ x : Option (Int × (Nat → UInt8)), x.or none = x := fun x => by cases x <;> rfl
  rw [e] at this
  exact this
theorem nfree_most (R : Nat → Int) : ∀ n, nfree R n ≤ n
  | 0 => Nat.le_refl _
  | n + 1 => by have := nfree_most R n; simp only [nfree]; split <;> omega
/-- A new root beside whatever there is. -/
theorem Mm.one_beside {M : Mm} (hn : M.n ≤ 256) {k : Nat} (hl : M.least = some k) : (M.alloc k).One k (M.n - nfree (M.alloc k).R M.n) ∧ ∀ q : Int, (M.alloc k).pgc k q = none := by
  obtain ⟨hk, hz, _⟩ := Mm.least_spec hl
  have R1 : ∀ x, (M.alloc k).R x = if x = k then 1 else M.R x := fun x => rfl
  have ht : (M.alloc k).Tree k (fun _ => none) (M.n - nfree (M.alloc k).R M.n) := by
    refine ⟨hn, hk, by rw [R1, if_pos rfl], fun i x h => (by cases h), fun i j x h => (by cases h), fun i hi _ => by rw [Mm.alloc_ent, if_pos rfl], fun i x h => (by cases h), fun i x j h => (by cases h), fun i x h => (by cases h), ?_⟩
    have e : tcnt (fun _ => none) 16 = 0 := rfl
    rw [e]
    show nfree (M.alloc k).R M.n + (M.n - nfree (M.alloc k).R M.n) + 0 = M.n
    have := nfree_most (M.alloc k).R M.n
    omega
  have hw : ∀ p : Int, ((M.alloc k).walk k p).2.2 ≠ 0 := by
    intro p
    by_cases hp : 0 ≤ p ∧ p ≤ 255
    · obtain ⟨q, rfl⟩ := Int.eq_ofNat_of_zero_le hp.1
      rw [ht.walk (p := q) (by omega), Mm.lk_tree ht (by omega)]
      simp
    · rw [ht.walk_out hp]; decide
  exact ⟨⟨⟨_, ht, ⟨fun p hp => absurd hp (hw p), fun p q hp => absurd hp (hw p)⟩⟩⟩, fun q => by unfold Mm.pgc; rw [if_neg (hw q)]⟩
/-- Exec where there is room for it. -/
theorem exec_room {M : Mm} (hn : M.n ≤ 256) (hroom : 29 ≤ nfree M.R M.n) (t d : ByteArray) (ht : t.size ≤ 200) (hd : d.size ≤ 200) : (M.exec t d).2.2 = 0 := by
  obtain ⟨k, hk⟩ := M.room (by omega)
  obtain ⟨a, b, _⟩ := Mm.least_spec hk
  obtain ⟨hO, hp⟩ := Mm.one_beside hn hk
  obtain ⟨hL, hl⟩ := imgItems_lays hp t d ht hd
  have R1 : ∀ x, (M.alloc k).R x = if x = k then 1 else M.R x := fun x => rfl
  have h1 := nfree_take (R := M.R) (R' := (M.alloc k).R) a (by omega) (by rw [R1, if_pos rfl]; omega) (fun i hi => by rw [R1, if_neg hi])
  have h2 := nfree_most (M.alloc k).R M.n
  obtain ⟨g1, _⟩ := Mm.One.fillU (imgItems t d) _ [.root] _ hO hL (by show _ ≤ M.n; omega)
  unfold Mm.exec
  rw [hk]
  exact g1
/-- A byte of memory from what its page holds. -/
theorem Mm.vb_pgc {M : Mm} {r : Int} {i : Nat} {fl : Int} {b : Nat → UInt8} (h : M.pgc r ((i : Int) / 64) = some (fl, b)) : (M.walk r ((i : Int) / 64)).2.2 = 0 ∧ (M.walk r ((i : Int) / 64)).2.1 = fl ∧ M.vb r i = b (i % 64) := by
  unfold Mm.pgc at h
  by_cases e : (M.walk r ((i : Int) / 64)).2.2 = 0
  · rw [if_pos e, Option.some.injEq, Prod.mk.injEq] at h
    exact ⟨e, h.1, by rw [← h.2]; rfl⟩
  · rw [if_neg e] at h; cases h
/-- A byte of a text stands in its leaf. -/
theorem leavesL_byte : ∀ (n : Nat) (s : ByteArray), s.size ≤ n → ∀ i, i < s.size → ∃ x, (leavesL s)[i / 64]? = some x ∧ i % 64 < x.size ∧ x.data.toList[i % 64]? = s.data.toList[i]?
  | 0, s, h, i, hi => by omega
  | n + 1, s, h, i, hi => by
    have hk : lk s ≤ s.size ∧ (0 < lk s) ∧ lk s ≤ 64 ∧ (lk s = s.size ∨ lk s = 64) := by unfold lk; omega
    have hr := size_rest s (lk s) hk.1
    rw [leavesL_step (by omega)]
    by_cases h64 : i < 64
    · have e1 : i / 64 = 0 := by omega
      have e2 : i % 64 = i := by omega
      rw [e1, e2]
      refine ⟨_, rfl, by rw [ByteArray.size_extract]; omega, ?_⟩
      rw [ByteArray.data_extract, Array.toList_extract, List.extract_eq_take_drop, List.drop_zero, List.getElem?_take, if_pos (by omega)]
    · obtain ⟨x, a, b, c⟩ := leavesL_byte n (s.extract (lk s) s.size) (by omega) (i - 64) (by omega)
      have e1 : i / 64 = (i - 64) / 64 + 1 := by omega
      have e2 : i % 64 = (i - 64) % 64 := by omega
      rw [e1, e2, List.getElem?_cons_succ]
      refine ⟨x, a, b, c.trans ?_⟩
      have hk64 : lk s = 64 := by omega
      have hl : s.data.toList.length = s.size := by simp
      rw [hk64, ByteArray.data_extract, Array.toList_extract, List.extract_eq_take_drop, List.getElem?_take, if_pos (by omega), List.getElem?_drop]
      congr 1
      omega
end Go.Proofs.Ytlbgnmcjdmdjpaa
open Go Go.Proofs
namespace Go.Proofs.Ytlbgnmcjdmdjpaa
open Go.RowKit Go.Shelf
attribute [local go_sem] Oper.semAt_some
theorem lookI_cons (a : Int × Int × ByteArray) (l : List (Int × Int × ByteArray)) (q : Int) : lookI (a :: l) q = if a.1 = q then some (a.2.1, pad a.2.2) else lookI l q := by
  unfold lookI
  by_cases h : a.1 = q
  · simp [h]
  · simp [h]
theorem lookI_items (fl : Int) (r : List (Int × Int × ByteArray)) : ∀ (l : List ByteArray) (p i : Nat) (x : ByteArray), l[i]? = some x → lookI (itemsL p fl l ++ r) ((p + i : Nat) : Int) = some (fl, pad x)
  | [], p, i, x, h => by cases h
  | s :: l, p, i, x, h => by
    unfold itemsL
    rw [List.cons_append, lookI_cons]
    cases i with
    | zero =>
      rw [List.getElem?_cons_zero, Option.some.injEq] at h
      rw [if_pos (by simp), h]
    | succ j =>
      rw [List.getElem?_cons_succ] at h
      have := lookI_items fl r l (p + 1) j x h
      rw [if_neg (by simp; omega), show ((p : Int) + 1) = ((p + 1 : Nat) : Int) by simp, show p + (j + 1) = p + 1 + j by omega]
      exact this
theorem lookI_skip (fl : Int) (r : List (Int × Int × ByteArray)) : ∀ (l : List ByteArray) (p : Nat) (q : Int), q < p ∨ (p : Int) + l.length ≤ q → lookI (itemsL p fl l ++ r) q = lookI r q
  | [], p, q, h => rfl
  | s :: l, p, q, h => by
    unfold itemsL
    rw [List.length_cons] at h
    rw [List.cons_append, lookI_cons, if_neg (by simp only; omega), show ((p : Int) + 1) = ((p + 1 : Nat) : Int) by simp]
    exact lookI_skip fl r l (p + 1) q (by omega)
theorem lookI_text (t d : ByteArray) (i : Nat) (hi : i < t.size) : ∃ x : ByteArray, lookI (imgItems t d) ((i : Int) / 64) = some (1, pad x) ∧ i % 64 < x.size ∧ x.data.toList[i % 64]? = t.data.toList[i]? := by
  obtain ⟨x, a, b, c⟩ := leavesL_byte _ t (Nat.le_refl _) i hi
  refine ⟨x, ?_, b, c⟩
  unfold imgItems
  have := lookI_items 1 (itemsL ((leavesL t).length : Int) 3 (leavesL d) ++ stackL) (leavesL t) 0 (i / 64) x a
  rw [Nat.zero_add] at this
  exact this
theorem lookI_data (t d : ByteArray) (i : Nat) (hi : i < d.size) : ∃ x : ByteArray, lookI (imgItems t d) (((64 * spn 0 t.size + i : Nat) : Int) / 64) = some (3, pad x) ∧ (64 * spn 0 t.size + i) % 64 < x.size ∧ x.data.toList[(64 * spn 0 t.size + i) % 64]? = d.data.toList[i]? := by
  obtain ⟨x, a, b, c⟩ := leavesL_byte _ d (Nat.le_refl _) i hi
  have e : (64 * spn 0 t.size + i) % 64 = i % 64 := by omega
  refine ⟨x, ?_, by rw [e]; exact b, by rw [e]; exact c⟩
  have hl := leavesL_len _ t (Nat.le_refl _)
  unfold imgItems
  have h1 := lookI_skip 1 (itemsL ((leavesL t).length : Int) 3 (leavesL d) ++ stackL) (leavesL t) 0 (((64 * spn 0 t.size + i : Nat) : Int) / 64) (by rw [hl]; omega)
  have h2 := lookI_items 3 stackL (leavesL d) (leavesL t).length (i / 64) x a
  rw [show (((leavesL t).length + i / 64 : Nat) : Int) = ((64 * spn 0 t.size + i : Nat) : Int) / 64 by rw [hl]; omega] at h2
  exact h1.trans h2
theorem lookI_stack (t d : ByteArray) (ht : t.size ≤ 200) (hd : d.size ≤ 200) : lookI (imgItems t d) 254 = some (3, pad ByteArray.empty) := by
  have hl := leavesL_len _ t (Nat.le_refl _)
  have hk := leavesL_len _ d (Nat.le_refl _)
  have s1 : spn 0 t.size ≤ 4 := by unfold spn; split <;> omega
  have s2 : spn 0 d.size ≤ 4 := by unfold spn; split <;> omega
  unfold imgItems
  rw [show (0 : Int) = ((0 : Nat) : Int) from rfl, lookI_skip 1 _ (leavesL t) 0 254 (by rw [hl]; omega), lookI_skip 3 _ (leavesL d) _ 254 (by rw [hl, hk]; omega)]
  rfl
theorem pad_at {x : ByteArray} {o : Nat} {b : UInt8} (h : o < x.size) (e : x.data.toList[o]? = some b) : pad x o = b := by
  unfold pad; rw [if_pos h, e]; rfl
/-- What is read where each byte is known. -/
theorem inr_pgc {M : Mm} {r : Int} (hu : M.isUsed r = true) (a : Nat) (s : ByteArray) (hs : s.size ≤ 4096) (ha : a + s.size ≤ 16384)
    (h : ∀ i, i < s.size → ∃ fl b, M.pgc r (((a + i : Nat) : Int) / 64) = some (fl, b) ∧ s.data.toList[i]? = some (b ((a + i) % 64))) {er : Int} {s' : ByteArray} (hr : InR M r a s.size er s') : er = 0 ∧ s' = s := by
  have hz : ChkR M r a s.size false 0 := by
    refine .inr (.inr (.inr ⟨hu, a, s.size, rfl, rfl, hs, ha, .inl ⟨rfl, fun i h1 h2 => ?_⟩⟩))
    obtain ⟨fl, b, e, _⟩ := h (i - a) (by omega)
    rw [show a + (i - a) = i by omega] at e
    exact ⟨(Mm.vb_pgc e).1, fun h => by cases h⟩
  obtain rfl := chk_fun hr.1 hz
  refine ⟨rfl, ?_⟩
  rcases hr.2 with ⟨z, _⟩ | ⟨_, rfl⟩
  · exact absurd rfl z
  · have hl : s.data.toList.length = s.size := by simp
    unfold Mm.vstr
    have : M.vs r (a : Int).toNat (s.size : Int).toNat = s.data.toList := by
      apply List.ext_getElem?
      intro j
      rw [Int.toNat_natCast, Int.toNat_natCast]
      by_cases hj : j < s.size
      · obtain ⟨fl, b, e, f⟩ := h j hj
        unfold Mm.vs
        rw [List.getElem?_map, List.getElem?_range hj, Option.map_some, f, (Mm.vb_pgc e).2.2]
      · rw [List.getElem?_eq_none (by rw [Mm.vs_len]; omega), List.getElem?_eq_none (by omega)]
    rw [this]
/-- A check where each page is known. -/
theorem chk_pgc {M : Mm} {r : Int} (hu : M.isUsed r = true) (a n : Nat) (wr : Bool) (hs : n ≤ 4096) (ha : a + n ≤ 16384)
    (h : ∀ i, i < n → ∃ fl b, M.pgc r (((a + i : Nat) : Int) / 64) = some (fl, b) ∧ (wr = true → bits .and .i64 fl 2 ≠ 0)) {er : Int} (hr : ChkR M r a n wr er) : er = 0 := by
  have hz : ChkR M r a n wr 0 := by
    refine .inr (.inr (.inr ⟨hu, a, n, rfl, rfl, hs, ha, .inl ⟨rfl, fun i h1 h2 => ?_⟩⟩))
    obtain ⟨fl, b, e, f⟩ := h (i - a) (by omega)
    rw [show a + (i - a) = i by omega] at e
    obtain ⟨x, y, _⟩ := Mm.vb_pgc e
    exact ⟨x, fun h => by rw [y]; exact f h⟩
  exact chk_fun hr hz
theorem chk_bad {M : Mm} {r : Int} (hu : M.isUsed r = true) (a n : Nat) (hs : n ≤ 4096) (ha : a + n ≤ 16384)
    (h : ∃ i, i < n ∧ (M.pgc r (((a + i : Nat) : Int) / 64) = none ∨ ∃ fl b, M.pgc r (((a + i : Nat) : Int) / 64) = some (fl, b) ∧ bits .and .i64 fl 2 = 0)) {er : Int} (hr : ChkR M r a n true er) : er = 30 := by
  have hz : ChkR M r a n true 30 := by
    obtain ⟨i, hi, h⟩ := h
    refine .inr (.inr (.inr ⟨hu, a, n, rfl, rfl, hs, ha, .inr ⟨rfl, a + i, by omega, by omega, fun hok => ?_⟩⟩))
    rcases h with h | ⟨fl, b, e, f⟩
    · unfold Mm.pgc at h
      rw [if_pos hok.1] at h
      cases h
    · obtain ⟨x, y, _⟩ := Mm.vb_pgc e
      exact hok.2 rfl (by rw [y]; exact f)
  exact chk_fun hr hz
end Go.Proofs.Ytlbgnmcjdmdjpaa
