/- SpaceDrops: the region in which frames are attached, in all its orders. Conditions: what its two calls tell. -/
import Derived.Test.YtlbgnmcjdmdjpaaK15
set_option linter.unusedSimpArgs false
set_option linter.unusedVariables false
namespace Go.Proofs.Ytlbgnmcjdmdjpaa
open Go.RowKit Go.Shelf
attribute [local go_sem] Oper.semAt_some
def OnlyE (S : Nat → Nat → Int → Int → Int → Int → Option Addr → Nat → Nat → Int → World → Prop) (F : Nat → Nat → Int → Int → Int → Int → Option Addr → Nat → Nat → Int → Act) : Exit → Act → World → Prop
  | .normal, a, w => ∃ b g r t d h va vn vc er, S b g r t d h va vn vc er w ∧ a = F b g r t d h va vn vc er
  | _, _, _ => False
set_option maxHeartbeats 40000000 in
set_option maxRecDepth 16384 in
theorem region28 {x0 x1 x2 x3 x4 x5 x6 x7 x9 x10 x11 x12 x13 x14 x15 x17 x18 x20 x21 x22 x23 x24 x25 x26 x27 x28 x29 x30 x31 x32 x33 x34 x35 x36 x37 x38 x39 x40 x41 x42 x43 x44 x45 x46 x47 x48 x49 x50 x51 x52 x53 x54 x55 x56 x57 x58 x59 x60 x61 x62 x63 x64 x65 x66 x67 x68 x69 x70 x71 x72 x73 x74 x75 x76 x77 x78 x79 x80 x81 x82 x83 x84 x85 x86 x87 x88 x89 x90 x91 x92 x93 x94 x95 x96 x97 x98 x99 x100 x101 x102 x103 x104 x105 x106 x107 x108 x109 x110 x111 x112 x113 x114 x115 x116 x117 x118 x119 x120 x121 x122 x123 x124 x125 x126 x127 x128 x129 x130 x131 x132 x133 x134 x135 x136 x137 x138 x139 x140 x141 x142 x143 x144 x145 x146 x147 x148 x149 x150 x151 x152 x153 x154 x155 x156 x157 x158 x159 x160 x161 x162 x163 x164 x165 x166 x167 x168 x169 x170 x171 x172 x173 x174 x175 x176 x177 x178 x179 x180 x181 x182 x183 x184 x185 x186 x187 x188 x189 x190 x191 x192 x193 x194 x195 x196 x197 x198 x199 : Value} (W9 : World) (f b16 b19 m : Nat) (q K : Int) (wrt : Bool) (v0 v1 v2 v3 : Int) (va : Option Addr) (vn vc : Nat) (gl : List Int) (ne1 : ¬ b16 = b19) (ne2 : ¬ b19 = b16)
    (R : World → Int → Int → Int → Int → Option Addr → Nat → Nat → Int → Prop)
    (cg : ∀ W, Same (fun _ => False) W9 W → Calls Try.prog 52 #[.int .i64 q] W fun e w' => ∃ v, e = .returned v ∧ ∃ gg, v = .slice (some ⟨gg, 0, none⟩) (m + 1) 4 ∧ Same (fun _ => False) W9 w' ∧ (w'.cell? ⟨b16, 2, none⟩ = some (.int .i64 q) ∧ w'.cell? ⟨b16, 3, none⟩ = some (.int .i64 K) ∧ w'.cell? ⟨b16, 4, none⟩ = some (.bool wrt)) ∧ Fl w' b19 (.int .i64 v0) (.int .i64 v1) (.int .i64 v2) (.int .i64 v3) (.slice va vn vc) ∧ Hid (IntsO w' (some ⟨gg, 0, none⟩) gl))
    (ca : ∀ W W1 gg, Same (fun _ => False) W9 W1 → Hid (IntsO W1 (some ⟨gg, 0, none⟩) gl) → Same (fun _ => False) W1 W → Calls Try.prog 51 #[.pointer (some ⟨f, 0, none⟩), .agg #[.int .i64 v0, .int .i64 v1, .int .i64 v2, .int .i64 v3, .slice va vn vc], .int .i64 K, .slice (some ⟨gg, 0, none⟩) (m + 1) 4, .bool wrt] W fun e w' =>
      ∃ v, e = .returned v ∧ ∃ r t d h ua un uc er, v = .tuple #[.agg #[.int .i64 r, .int .i64 t, .int .i64 d, .int .i64 h, .slice ua un uc], .int .i64 er] ∧ (w'.cell? ⟨b16, 2, none⟩ = some (.int .i64 q) ∧ w'.cell? ⟨b16, 3, none⟩ = some (.int .i64 K) ∧ w'.cell? ⟨b16, 4, none⟩ = some (.bool wrt)) ∧ Fl w' b19 (.int .i64 v0) (.int .i64 v1) (.int .i64 v2) (.int .i64 v3) (.slice va vn vc) ∧ Fz w' b19 ∧ Hid (R w' r t d h ua un uc er))
    (q2 : W9.cell? ⟨b16, 2, none⟩ = some (.int .i64 q)) (q3 : W9.cell? ⟨b16, 3, none⟩ = some (.int .i64 K)) (q4 : W9.cell? ⟨b16, 4, none⟩ = some (.bool wrt)) (g0 : W9.cell? ⟨b19, 0, none⟩ = some (.int .i64 v0)) (g1 : W9.cell? ⟨b19, 1, none⟩ = some (.int .i64 v1)) (g2 : W9.cell? ⟨b19, 2, none⟩ = some (.int .i64 v2)) (g3 : W9.cell? ⟨b19, 3, none⟩ = some (.int .i64 v3)) (g4 : W9.cell? ⟨b19, 4, none⟩ = some (.slice va vn vc)) :
    Code.wp Try.prog (
      Code.region 28
        #[{ dst := some 119, op := Op.move (Operand.tmp 8), type := 24, pos := "law.go:225", after := #[], guard := none },
          { dst := some 120, op := Op.load 75 (Operand.tmp 19), type := 75, pos := "law.go:225", after := #[],
            guard := none },
          { dst := some 121, op := Op.fieldAddr 93 (Operand.tmp 16) 3, type := 0, pos := "law.go:225", after := #[],
            guard := none },
          { dst := some 122, op := Op.load 3 (Operand.tmp 121), type := 3, pos := "law.go:225",
            after := #[{ on := 2, ground := Ground.data }], guard := none },
          { dst := some 123, op := Op.fieldAddr 93 (Operand.tmp 16) 2, type := 0, pos := "law.go:225", after := #[],
            guard := none },
          { dst := some 124, op := Op.load 3 (Operand.tmp 123), type := 3, pos := "law.go:225",
            after := #[{ on := 4, ground := Ground.data }], guard := none },
          { dst := some 125,
            op := Op.call { callee := Callee.value (Operand.func 52), args := #[Operand.tmp 124], argTypes := #[3] },
            type := 30, pos := "law.go:225", after := #[{ on := 5, ground := Ground.data }], guard := none },
          { dst := some 126, op := Op.fieldAddr 93 (Operand.tmp 16) 4, type := 0, pos := "law.go:225", after := #[],
            guard := none },
          { dst := some 127, op := Op.load 4 (Operand.tmp 126), type := 4, pos := "law.go:225",
            after := #[{ on := 7, ground := Ground.data }], guard := none },
          { dst := some 128,
            op :=
              Op.call
                { callee := Callee.value (Operand.func 51),
                  args := #[Operand.tmp 119, Operand.tmp 120, Operand.tmp 122, Operand.tmp 125, Operand.tmp 127],
                  argTypes := #[24, 75, 3, 30, 4] },
            type := 76, pos := "law.go:225",
            after :=
              #[{ on := 0, ground := Ground.data }, { on := 1, ground := Ground.data }, { on := 3, ground := Ground.data },
                { on := 6, ground := Ground.data }, { on := 8, ground := Ground.data }, { on := 6, ground := Ground.chain }],
            guard := none },
          { dst := some 118, op := Op.move (Operand.tmp 128), type := 76, pos := "law.go:225",
            after := #[{ on := 9, ground := Ground.data }], guard := none },
          { dst := some 129, op := Op.extract (Operand.tmp 118) 0, type := 75, pos := "law.go:225",
            after := #[{ on := 10, ground := Ground.data }], guard := none },
          { dst := some 130, op := Op.extract (Operand.tmp 118) 1, type := 25, pos := "law.go:225",
            after := #[{ on := 10, ground := Ground.data }, { on := 13, ground := Ground.gcOnly Departure.lateStores }],
            guard := none },
          { dst := none, op := Op.store 75 (Operand.tmp 19) (Operand.tmp 129), type := 0, pos := "law.go:225",
            after :=
              #[{ on := 11, ground := Ground.data }, { on := 9, ground := Ground.chain }, { on := 0, ground := Ground.phase },
                { on := 1, ground := Ground.phase }, { on := 2, ground := Ground.phase }, { on := 3, ground := Ground.phase },
                { on := 4, ground := Ground.phase }, { on := 5, ground := Ground.phase }, { on := 6, ground := Ground.phase },
                { on := 7, ground := Ground.phase }, { on := 8, ground := Ground.phase }, { on := 9, ground := Ground.phase },
                { on := 10, ground := Ground.phase }, { on := 11, ground := Ground.phase },
                { on := 12, ground := Ground.textOnly Departure.lateStores }],
            guard := none },
          { dst := some 20, op := Op.assign (Operand.tmp 130), type := 25, pos := "law.go:225",
            after :=
              #[{ on := 12, ground := Ground.data }, { on := 13, ground := Ground.chain },
                { on := 0, ground := Ground.phase }, { on := 1, ground := Ground.phase }, { on := 2, ground := Ground.phase },
                { on := 3, ground := Ground.phase }, { on := 4, ground := Ground.phase }, { on := 5, ground := Ground.phase },
                { on := 6, ground := Ground.phase }, { on := 7, ground := Ground.phase }, { on := 8, ground := Ground.phase },
                { on := 9, ground := Ground.phase }, { on := 10, ground := Ground.phase },
                { on := 11, ground := Ground.phase }, { on := 12, ground := Ground.phase },
                { on := 13, ground := Ground.phase }],
            guard := none }] true)
      (OnlyE (fun b g r t d h ua un uc er W => ∃ wp, R wp r t d h ua un uc er ∧ W = ((((wp.setCell ⟨b19, 0, none⟩ (.int .i64 r)).setCell ⟨b19, 1, none⟩ (.int .i64 t)).setCell ⟨b19, 2, none⟩ (.int .i64 d)).setCell ⟨b19, 3, none⟩ (.int .i64 h)).setCell ⟨b19, 4, none⟩ (.slice ua un uc))
        (fun b g r t d h ua un uc er => { tmps := #[x0, x1, x2, x3, x4, x5, x6, x7, .pointer (some ⟨f, 0, none⟩), x9, x10, x11, x12, x13, x14, x15, .pointer (some ⟨b16, 0, none⟩), x17, x18, .pointer (some ⟨b19, 0, none⟩), .int .i64 er, x21, x22, x23, x24, x25, x26, x27, x28, x29, x30, x31, x32, x33, x34, x35, x36, x37, x38, x39, x40, x41, x42, x43, x44, x45, x46, x47, x48, x49, x50, x51, x52, x53, x54, x55, x56, x57, x58, x59, x60, x61, x62, x63, x64, x65, x66, x67, x68, x69, x70, x71, x72, x73, x74, x75, x76, x77, x78, x79, x80, x81, x82, x83, x84, x85, x86, x87, x88, x89, x90, x91, x92, x93, x94, x95, x96, x97, x98, x99, x100, x101, x102, x103, x104, x105, x106, x107, x108, x109, x110, x111, x112, x113, x114, x115, x116, x117, .tuple #[.agg #[.int .i64 r, .int .i64 t, .int .i64 d, .int .i64 h, .slice ua un uc], .int .i64 er], .pointer (some ⟨f, 0, none⟩), .agg #[.int .i64 v0, .int .i64 v1, .int .i64 v2, .int .i64 v3, .slice va vn vc], .pointer (some ⟨b16, 3, none⟩), .int .i64 K, .pointer (some ⟨b16, 2, none⟩), .int .i64 q, .slice (some ⟨g, 0, none⟩) (m + 1) 4, .pointer (some ⟨b16, 4, none⟩), .bool wrt, .tuple #[.agg #[.int .i64 r, .int .i64 t, .int .i64 d, .int .i64 h, .slice ua un uc], .int .i64 er], .agg #[.int .i64 r, .int .i64 t, .int .i64 d, .int .i64 h, .slice ua un uc], .int .i64 er, x131, x132, x133, x134, x135, x136, x137, x138, x139, x140, x141, x142, x143, x144, x145, x146, x147, x148, x149, x150, x151, x152, x153, x154, x155, x156, x157, x158, x159, x160, x161, x162, x163, x164, x165, x166, x167, x168, x169, x170, x171, x172, x173, x174, x175, x176, x177, x178, x179, x180, x181, x182, x183, x184, x185, x186, x187, x188, x189, x190, x191, x192, x193, x194, x195, x196, x197, x198, x199], defers := [] }))
      { tmps := #[x0, x1, x2, x3, x4, x5, x6, x7, .pointer (some ⟨f, 0, none⟩), x9, x10, x11, x12, x13, x14, x15, .pointer (some ⟨b16, 0, none⟩), x17, x18, .pointer (some ⟨b19, 0, none⟩), x20, x21, x22, x23, x24, x25, x26, x27, x28, x29, x30, x31, x32, x33, x34, x35, x36, x37, x38, x39, x40, x41, x42, x43, x44, x45, x46, x47, x48, x49, x50, x51, x52, x53, x54, x55, x56, x57, x58, x59, x60, x61, x62, x63, x64, x65, x66, x67, x68, x69, x70, x71, x72, x73, x74, x75, x76, x77, x78, x79, x80, x81, x82, x83, x84, x85, x86, x87, x88, x89, x90, x91, x92, x93, x94, x95, x96, x97, x98, x99, x100, x101, x102, x103, x104, x105, x106, x107, x108, x109, x110, x111, x112, x113, x114, x115, x116, x117, x118, x119, x120, x121, x122, x123, x124, x125, x126, x127, x128, x129, x130, x131, x132, x133, x134, x135, x136, x137, x138, x139, x140, x141, x142, x143, x144, x145, x146, x147, x148, x149, x150, x151, x152, x153, x154, x155, x156, x157, x158, x159, x160, x161, x162, x163, x164, x165, x166, x167, x168, x169, x170, x171, x172, x173, x174, x175, x176, x177, x178, x179, x180, x181, x182, x183, x184, x185, x186, x187, x188, x189, x190, x191, x192, x193, x194, x195, x196, x197, x198, x199], defers := [] } W9 := by
  go_region_law (first
    | (refine step_call1E rfl 52 (.tmp 124) #[3] rfl (enters_of Try.func52 (by kernel_rfl) rfl) (.int .i64 q) (by go_simp) (cg _ (by first | with_reducible exact Same.refl _ _ | with_reducible exact (Same.refl _ _).drew)) ?_
       rintro v wq ⟨gg, rfl, hsq, ⟨y0, y1, y2⟩, ⟨c0, c1, c2, c3, c4⟩, hiq⟩)
    | (refine step_call5E rfl 51 (.tmp 119) (.tmp 120) (.tmp 122) (.tmp 125) (.tmp 127) #[24, 75, 3, 30, 4] rfl (enters_of Try.func51 (by kernel_rfl) rfl) (.pointer (some ⟨f, 0, none⟩)) (.agg #[.int .i64 v0, .int .i64 v1, .int .i64 v2, .int .i64 v3, .slice va vn vc]) (.int .i64 K) (.slice (some ⟨gg, 0, none⟩) (m + 1) 4) (.bool wrt) (by go_simp) (by go_simp) (by go_simp) (by go_simp) (by go_simp) (ca _ _ _ hsq hiq (by first | with_reducible exact Same.refl _ _ | with_reducible exact (Same.refl _ _).drew)) ?_
       rintro v wp ⟨r1, t1, u1, h1, ua, un, uc, er, rfl, ⟨z10, z11, z12⟩, ⟨c0, c1, c2, c3, c4⟩, ⟨z0, z1, z2, z3, z4⟩, hap⟩))
  all_goals go_simp
  all_goals exact ⟨0, gg, r1, t1, u1, h1, ua, un, uc, er, ⟨wp, hap.out, rfl⟩, rfl⟩
end Go.Proofs.Ytlbgnmcjdmdjpaa
