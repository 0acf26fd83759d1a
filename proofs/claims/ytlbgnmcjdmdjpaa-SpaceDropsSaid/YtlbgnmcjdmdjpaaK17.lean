/- The walk of SpaceDrops. Conditions: the arguments' form. -/
import Derived.Test.YtlbgnmcjdmdjpaaK15
import Derived.Test.YtlbgnmcjdmdjpaaK16
set_option linter.unusedSimpArgs false
set_option linter.unusedVariables false
namespace Go.Proofs.Ytlbgnmcjdmdjpaa
open Go.RowKit Go.Shelf
attribute [local go_sem] Oper.semAt_some
theorem wrapd4 (d : Int) : (IntKind.u64.wrap d).tmod 4 = d % 4 := by
  have : IntKind.u64.wrap d = d % 2 ^ 64 := rfl
  rw [this, Int.tmod_eq_emod_of_nonneg (by omega)]
  omega
theorem wp_viaD {P : Program} {c : Code} {Q : Exit → Act → World → Prop} {a : Act} {w : World} (S : Nat → Nat → Int → Int → Int → Int → Option Addr → Nat → Nat → Int → World → Prop) (F : Nat → Nat → Int → Int → Int → Int → Option Addr → Nat → Nat → Int → Act)
    (h1 : c.wp P (OnlyE S F) a w) (h2 : ∀ b g r t d h va vn vc er W, S b g r t d h va vn vc er W → Q .normal (F b g r t d h va vn vc er) W) : c.wp P Q a w :=
  wp_mono h1 (by
    intro e a' w' h
    cases e with
    | normal =>
      obtain ⟨b, g, r, t, d, h, va, vn, vc, er, hs, rfl⟩ := h
      exact h2 _ _ _ _ _ _ _ _ _ _ _ hs
    | _ => exact h.elim)
theorem DrI.used {M : Mm} {n j : Nat} {P : List SpT} (h : DrI M n j P) {k : Nat} {s : Spc} {T : Nat → Option Nat} (hk : P[k]? = some (s, T)) : M.isUsed s.root = true := by
  obtain ⟨r, Q, hr, hG, _⟩ := h.at hk
  have := hG.tree
  rw [hr]
  exact Mm.isUsed_nat this.rn (by rw [this.rR]; decide)
def OnlyF (S : Nat → Value → World → Prop) (F : Nat → Nat → Nat → Value → Act) : Exit → Act → World → Prop
  | .normal, a, w => ∃ gp cp blk v, S gp v w ∧ a = F gp cp blk v
  | _, _, _ => False
theorem wp_viaF {P : Program} {c : Code} {Q : Exit → Act → World → Prop} {a : Act} {w : World} (S : Nat → Value → World → Prop) (F : Nat → Nat → Nat → Value → Act)
    (h1 : c.wp P (OnlyF S F) a w) (h2 : ∀ gp cp blk v W, S gp v W → Q .normal (F gp cp blk v) W) : c.wp P Q a w :=
  wp_mono h1 (by
    intro e a' w' h
    cases e with
    | normal =>
      obtain ⟨gp, cp, blk, v, hs, rfl⟩ := h
      exact h2 _ _ _ _ _ hs
    | _ => exact h.elim)
/-- Behind put. -/
theorem put_rel {X Wa w' : World} {f fb : Nat} {M : Mm} {v : Value} {Q : List Sp4} {k g2 c2 vc' : Nat} {s' : Spc} {T' : Nat → Option Nat} {va' : Option Addr} (hst : ShW X Wa f fb M) (hV : DrV X Wa v Q) (hk : k < Q.length) (hat : AttO Wa (.slice va' s'.atts.length vc') s'.atts)
    (hown : w'.ownsRow Wa.heap.size 75 5 (.slice (some ⟨g2, 0, none⟩) Q.length c2) Q.length (set5 (flatS Q) k (.int .i64 s'.root) (.int .i64 s'.text) (.int .i64 s'.data) (.int .i64 s'.heap) (.slice va' s'.atts.length vc'))) (hs : Same (fun _ => False) Wa w') :
    ShW X w' f fb M ∧ DrV X w' (.slice (some ⟨g2, 0, none⟩) (Q.set k ((s', T'), va', vc')).length c2) (Q.set k ((s', T'), va', vc')) := by
  refine ⟨hst.same0 hs, ?_, fun q hq => ?_⟩
  · have := flatS_set Q k ((s', T'), va', vc') hk
    simp only at this
    rw [this] at hown
    rw [List.length_set]
    exact ownsRow_base hown hst.same.size
  · rcases List.mem_or_eq_of_mem_set hq with h | h
    · exact (hV.att q h).same0 hs
    · subst h; exact hat.same0 hs
set_option maxHeartbeats 40000000 in
set_option maxRecDepth 16384 in
theorem drops_walk (w : World) (text : ByteArray) (n : Int) (a : Option Addr) (len c : Nat) (hts : text.size ≤ 9223372036854775807) (hin : In64 n) (hlen : len ≤ 9223372036854775807) (hl : ActsE w a len) :
    Calls Try.prog 17 #[.string text, .int .i64 n, .slice a len c] w fun e w' => e = .returned (.bool true) ∧ Same (fun _ => False) w w' := by
  by_cases hn : n < 5 ∨ 90 < n
  · rcases hn with hn | hn
    · have hd : decide (n < 5) = true := by simpa using hn
      go_enter Try.func17, Try.ntmps17
      go_wp2_with fail
      refine (shown4 _).mono ?_
      rintro e w1 ⟨rfl, hs1⟩
      go_wp2
      go_ret
      exact ⟨rfl, hs1⟩
    · have hd : decide (n < 5) = false := by simp; omega
      have hd2 : decide (90 < n) = true := by simpa using hn
      go_enter Try.func17, Try.ntmps17
      go_wp2_with fail
      refine (shown4 _).mono ?_
      rintro e w1 ⟨rfl, hs1⟩
      go_wp2
      go_ret
      exact ⟨rfl, hs1⟩
  obtain ⟨n, rfl⟩ := Int.eq_ofNat_of_zero_le (show 0 ≤ n by omega)
  have hd : decide ((n : Int) < 5) = false := by simp; omega
  have hd2 : decide ((90 : Int) < n) = false := by simp; omega
  have HN := Lib.hid (show 5 ≤ n ∧ n ≤ 90 by omega)
  have HL := Lib.hid (And.intro hl hlen)
  clear hn hin hlen hl
  go_enter Try.func17, Try.ntmps17
  go_wp2_with fail
  refine (shown4 _).mono ?_
  rintro e w1 ⟨rfl, hs1⟩
  have C := Lib.hid (new_any w1 n (by have := HN.out; omega) (by have := HN.out; omega))
  have HS1 := Lib.hid hs1
  clear hs1
  go_wp2_with fail
  refine C.out.mono ?_
  rintro e w2 ⟨f, fb, rfl, hf, hfb, hM, hs2⟩
  have hs1 := HS1.out
  have hs02 : Same (fun _ => False) w w2 := hs1.trans hs2
  have hsz1 := hs1.size
  have hwf : w.heap.size ≤ fb := by omega
  have hM : MemAt w2 f fb (Mm.taken n 0) := hM
  have HH := Lib.hid (And.intro hs02 (And.intro hwf hM))
  clear hs1 hs2 hsz1 hf hfb hs02 hwf hM C
  go_wp2_with fail
  go_loopw [10] (fun v10 wr => ∃ k : Nat, v10 = .int .i64 k ∧ k ≤ 4 ∧ MemAt wr f fb (Mm.taken n k) ∧ Same (· = fb) w2 wr) (fun v10 _ => 4 - (intOf v10).toNat)
  case atStart => exact ⟨0, rfl, by omega, HH.out.2.2, Same.refl _ _⟩
  case round =>
    obtain ⟨k, rfl, hk, hM, hs⟩ := hrel
    by_cases hlt : k < 4
    · have hd : decide ((k : Int) < 4) = true := by simp; omega
      have hadd : IntKind.i64.wrap ((k : Int) + 1) = ((k + 1 : Nat) : Int) := by rw [IntWalk.i64_in _ (by omega)]; rfl
      have C := Lib.hid (alloc_any hM)
      have HS := Lib.hid hs
      clear hM hs
      go_wp2_with fail
      refine C.out.mono ?_
      rintro e w3 (⟨hno, -⟩ | ⟨j, hj, hR, hlo, rfl, hM3, hs3⟩)
      · have := hno k (by rw [taken_n]; have := HN.out; omega)
        rw [taken_R, if_neg (by omega)] at this
        omega
      have hjk : j = k := by
        rcases Nat.lt_trichotomy j k with c | c | c
        · rw [taken_R, if_pos c] at hR; omega
        · exact c
        · have := hlo k c
          rw [taken_R, if_neg (by omega)] at this
          omega
      subst hjk
      have H3 := Lib.hid (And.intro hM3 (HS.out.trans hs3))
      clear hM3 hs3 hlo hR hj HS
      go_wp2
      exact ⟨⟨j + 1, rfl, by omega, H3.out.1, H3.out.2⟩, by simp [intOf]; omega⟩
    · have : k = 4 := by omega
      subst this
      have H3 := Lib.hid (And.intro hM hs)
      have CL := Lib.hid (left_any hM)
      clear hM hs hlt hk
      go_wp2_with fail
      refine CL.out.mono ?_
      rintro e w3 ⟨rfl, hs3⟩
      obtain ⟨L0, hL0⟩ : ∃ x, x = nfree (Mm.taken n 4).R (Mm.taken n 4).n := ⟨_, rfl⟩
      rw [← hL0]
      have H4 := Lib.hid (And.intro ((H3.out.1).same0 hs3) (H3.out.2.trans (hs3.mono (fun _ _ h => h.elim))))
      have HL0 := Lib.hid hL0
      clear hs3 H3 hL0 CL
      go_wp2_with fail
      refine (image_any _ text ByteArray.empty).mono ?_
      rintro e w4 ⟨rfl, hs4⟩
      have hM4 := H4.out.1.same0 hs4
      have hx := exec_img hM4 text ByteArray.empty
      rw [show cut200 ByteArray.empty = ByteArray.empty from rfl, show spn 0 ByteArray.empty.size = 0 from rfl] at hx
      have hst := drops_start n HN.out.1 HN.out.2 (cut200 text) (by rw [cut200_size]; omega)
      obtain ⟨tt, htt⟩ : ∃ x, x = cut200 text := ⟨_, rfl⟩
      rw [← htt] at hx hst
      obtain ⟨⟨M1, r1, e1⟩, hX⟩ : ∃ X, (Mm.taken n 4).exec tt ByteArray.empty = X := ⟨_, rfl⟩
      rw [hX] at hx hst
      simp only at hx hst
      have hx := Lib.hid hx
      have H5 := Lib.hid (And.intro hst (H4.out.2.trans (hs4.mono (fun _ _ h => h.elim))))
      clear hM4 hst hs4 H4 hX htt
      go_wp2_with fail
      refine hx.out.mono ?_
      rintro e w5 ⟨hM5, hs5, ⟨rfl, rfl⟩ | ⟨h0, rfl⟩⟩
      · obtain ⟨hst, h25⟩ := H5.out
        obtain ⟨T, hdr⟩ := (hst.resolve_right (fun h => by have := h.1; exact absurd this (by decide))).2
        have hlt := hM5.lt
        have hfw := HH.out.2.2.lt
        obtain ⟨s0, hs0⟩ : ∃ s : Spc, s = ⟨r1, (spn 0 tt.size : Nat), 0, 0, []⟩ := ⟨_, rfl⟩
        rw [← hs0] at hdr
        obtain ⟨W6, hW6⟩ : ∃ W, W = w5.alloc (.cells #[.int .i64 r1, .int .i64 (spn 0 tt.size : Nat), .int .i64 0, .int .i64 0, .slice none 0 0] 75) := ⟨_, rfl⟩
        obtain ⟨W7, hW7⟩ : ∃ W, W = W6.alloc (.cells #[.int .i64 r1, .int .i64 (spn 0 tt.size : Nat), .int .i64 0, .int .i64 0, .slice none 0 0] 75) := ⟨_, rfl⟩
        have s67 : Same (fun _ => False) w5 W7 := by rw [hW7, hW6]; exact (same_alloc _).alloc _
        have st7 : ShW w2 W7 f fb M1 := ⟨hM5.same0 s67, ((h25.trans hs5).trans (s67.mono (fun _ _ h => h.elim))).mono (fun _ _ h => .inl h), hfw.symm⟩
        have e6 : W6.heap.size = w5.heap.size + 1 := by rw [hW6]; simp
        have hz5 := hs5.size
        have hz2 := h25.size
        have V7 : DrV w2 W7 (.slice (some ⟨w5.heap.size + 1, 0, none⟩) 1 1) [((s0, T), none, 0)] := by
          refine ⟨?_, fun q hq => ?_⟩
          · have := World.ownsRow_lit (base := w2.heap.size) (e := 75) (size := 5) W6 #[.int .i64 r1, .int .i64 (spn 0 tt.size : Nat), .int .i64 0, .int .i64 0, .slice none 0 0] 1 (by omega) (by unfold maxLen; omega) rfl
            rw [← hW7, e6] at this
            rw [hs0]
            exact this
          · rw [List.mem_singleton] at hq
            subst hq
            rw [hs0]
            exact World.ownsRow_nil _ _ _ _
        have H7 := Lib.hid (And.intro st7 (And.intro V7 hdr))
        have HW7 := Lib.hid (And.intro hW7 hW6)
        clear hst h25 hdr hlt hfw hs0 hW6 hW7 s67 st7 e6 hz5 hz2 V7 hM5 hs5 H5 hx
        go_wp2_with fail
        rw [← HW7.out.2, ← HW7.out.1]
        go_loopw [15, 14] (fun v15 v14 wr => ∃ (i : Nat) (M : Mm) (Q : List Sp4) (gq cq : Nat), v15 = .int .i64 i ∧ v14 = .slice (some ⟨gq, 0, none⟩) Q.length cq ∧ i ≤ len ∧ i ≤ 40 ∧ 0 < Q.length ∧ Q.length ≤ i + 1 ∧ ShW w2 wr f fb M ∧ DrV w2 wr (.slice (some ⟨gq, 0, none⟩) Q.length cq) Q ∧ DrI M n i (Q.map (·.1))) (fun v15 _ _ => len - (intOf v15).toNat)
        case atStart => exact ⟨0, M1, [((s0, T), none, 0)], _, _, rfl, rfl, by omega, by omega, by simp, by simp, H7.out.1, H7.out.2.1, H7.out.2.2⟩
        case round =>
          obtain ⟨i, M, Q, gq, cq, rfl, rfl, hi, hi4, hq0, hq1, hst, hV, hD⟩ := hrel
          have HI40 := Lib.hid hi4
          by_cases hlt : i < len ∧ i < 40
          · obtain ⟨lt1, lt2⟩ := hlt
            have e1 : decide ((i : Int) < (len : Int)) = true := by simp; omega
            have e2 : decide ((i : Int) < 40) = true := by simp; omega
            have hil : (i : Int) < (len : Int) := by omega
            have hi0 : (0 : Int) ≤ (i : Int) := by omega
            obtain ⟨A, d, p, q, K, wrt, sg, rfl, hA, id, ip, iq, iK⟩ := HL.out.1 i lt1
            have hAb : (A.add (i * 6)).block < w.heap.size := hA.lt
            have hAw := (hA.kept HH.out.1 (fun h => h)).kept hst.same (fun e => by
              have := HH.out.1.size
              have := HH.out.2.1
              have := hst.lt
              rcases e with e | e <;> omega)
            have a0 := hAw.c0
            have a1 := hAw.c1
            have a2 := hAw.c2
            have a3 := hAw.c3
            have a4 := hAw.c4
            have a5 := hAw.c5
            obtain ⟨k, hk, hkv⟩ := umod p Q.length hq0 (by omega)
            have CL := Lib.hid (fun W (hs : Same (fun _ => False) wr W) => left_any (hst.mem.same0 hs))
            have hqI : (0 : Int) < (Q.length : Int) := by omega
            have hkq : (k : Int) < (Q.length : Int) := by omega
            have hk0 : (0 : Int) ≤ (k : Int) := by omega
            have hu : IntKind.u64.wrap (Q.length : Int) = (Q.length : Int) := by
              have : IntKind.u64.wrap (Q.length : Int) = (Q.length : Int) % 2 ^ 64 := rfl
              rw [this]; omega
            rw [hu] at hkv
            have hq0' : ¬ (Q.length : Int) = 0 := by omega
            have HR := Lib.hid (And.intro hst (And.intro hV (And.intro hD (And.intro hq0 (And.intro hq1 (And.intro hk (And.intro hAw (And.intro hAb (And.intro id (And.intro ip (And.intro iq (And.intro iK (And.intro lt1 lt2)))))))))))))
            clear hst hV hD hA hAw hAb id ip iq iK hi hi4 hk
            obtain ⟨⟨⟨s, T1⟩, va, vc⟩, hQk⟩ : ∃ x, Q[k]? = some x := ⟨_, List.getElem?_eq_getElem (by have := HR.out.2.2.2.2.2.1; exact this)⟩
            have HQK := Lib.hid hQk
            clear hQk
            go_wp2_with fail
            refine (CL.out _ (same_alloc _)).mono ?_
            rintro e w8 ⟨rfl, hs8⟩
            obtain ⟨b16, hb16⟩ : ∃ b, b = wr.heap.size := ⟨_, rfl⟩
            obtain ⟨W1, hW1⟩ : ∃ W, W = wr.alloc (.cells #[.int .i64 d, .int .i64 p, .int .i64 q, .int .i64 K, .bool wrt, .string sg] 93) := ⟨_, rfl⟩
            obtain ⟨hst, hV, hD, hq0, hq1, hk, hAw, hAb, id, ip, iq, iK, lt1, lt2⟩ := HR.out
            have hX0 := hst.same.size
            have s01 : Same (fun _ => False) wr W1 := by rw [hW1]; exact same_alloc _
            have t0 : W1.cell? ⟨b16, 0, none⟩ = some (.int .i64 d) ∧ W1.cell? ⟨b16, 2, none⟩ = some (.int .i64 q) ∧ W1.cell? ⟨b16, 3, none⟩ = some (.int .i64 K) ∧ W1.cell? ⟨b16, 4, none⟩ = some (.bool wrt) := by
              rw [hW1, hb16]
              exact ⟨by rw [World.cell?_alloc_at _ _ _ _ rfl]; rfl, by rw [World.cell?_alloc_at _ _ _ _ rfl]; rfl, by rw [World.cell?_alloc_at _ _ _ _ rfl]; rfl, by rw [World.cell?_alloc_at _ _ _ _ rfl]; rfl⟩
            have sh16 : W1.shape? b16 = some (93, 6) := by rw [hW1, hb16, shape_alloc, if_pos rfl]; rfl
            have hs8' : Same (fun _ => False) W1 w8 := by rw [hW1]; exact hs8
            have hW1s : b16 < W1.heap.size := by rw [hW1, hb16]; simp
            have st8 := (hst.same0 s01).same0 hs8'
            have V8 := (hV.same0 s01).same0 hs8'
            have hQk := HQK.out
            have hfl := flatS_at Q k _ hQk
            simp only at hfl
            have hcell : ∀ (o : Nat) (u : Value), o < 5 → (flatS Q)[k * 5 + o]? = some u → w8.cell? ⟨gq, k * 5 + o, none⟩ = some u := fun o u ho hu => by
              rw [V8.own.cellAt _ (by omega)]; exact hu
            have c0 : w8.cell? ⟨gq, k * 5, none⟩ = some (.int .i64 s.root) := hcell 0 _ (by omega) hfl.1
            have c1 := hcell 1 _ (by omega) hfl.2.1
            have c2 := hcell 2 _ (by omega) hfl.2.2.1
            have c3 := hcell 3 _ (by omega) hfl.2.2.2.1
            have c4 := hcell 4 _ (by omega) hfl.2.2.2.2
            have hat8 : AttO w8 (.slice va s.atts.length vc) s.atts := V8.att _ (List.mem_of_getElem? hQk)
            have t8 : w8.cell? ⟨b16, 0, none⟩ = some (.int .i64 d) ∧ w8.cell? ⟨b16, 2, none⟩ = some (.int .i64 q) ∧ w8.cell? ⟨b16, 3, none⟩ = some (.int .i64 K) ∧ w8.cell? ⟨b16, 4, none⟩ = some (.bool wrt) :=
              ⟨hs8'.cell t0.1 (fun h => h), hs8'.cell t0.2.1 (fun h => h), hs8'.cell t0.2.2.1 (fun h => h), hs8'.cell t0.2.2.2 (fun h => h)⟩
            obtain ⟨W9, hW9⟩ : ∃ W, W = w8.alloc (.cells #[.int .i64 s.root, .int .i64 s.text, .int .i64 s.data, .int .i64 s.heap, .slice va s.atts.length vc] 75) := ⟨_, rfl⟩
            have s89 : Same (fun _ => False) w8 W9 := by rw [hW9]; exact same_alloc _
            have st9 := st8.same0 s89
            have V9 := V8.same0 s89
            have hat9 := hat8.same0 s89
            have x9 : BxW w2 W9 w8.heap.size s va vc := ⟨by rw [hW9]; exact five_new _ _ _ _ _ _, hat9, by rw [hW9, shape_alloc, if_pos rfl]; rfl, st8.same.size⟩
            have hb1 : b16 < w8.heap.size := by have := hs8'.size; omega
            have hbX : w2.heap.size ≤ b16 := by rw [hb16]; exact hX0
            have t9 : W9.cell? ⟨b16, 0, none⟩ = some (.int .i64 d) ∧ W9.cell? ⟨b16, 2, none⟩ = some (.int .i64 q) ∧ W9.cell? ⟨b16, 3, none⟩ = some (.int .i64 K) ∧ W9.cell? ⟨b16, 4, none⟩ = some (.bool wrt) :=
              ⟨s89.cell t8.1 (fun h => h), s89.cell t8.2.1 (fun h => h), s89.cell t8.2.2.1 (fun h => h), s89.cell t8.2.2.2 (fun h => h)⟩
            have hgq : gq ≠ w8.heap.size := by have : gq < w8.heap.size := (ownsRow_shape V8.own (g := gq) rfl).2.1; omega
            rw [← hb16]
            have H9 := Lib.hid (And.intro st9 (And.intro V9 (And.intro x9 (And.intro t9 (And.intro hb1 (And.intro hbX hgq))))))
            have HD := Lib.hid (And.intro hD (And.intro hq1 (And.intro hk (And.intro id (And.intro iq (And.intro iK (And.intro lt1 lt2)))))))
            obtain ⟨u0, u2, u3, u4⟩ := t9
            rw [hW9] at u0 u2 u3 u4
            have hW9' := Lib.hid hW9
            have hi1 : IntKind.i64.wrap ((i : Int) + 1) = ((i + 1 : Nat) : Int) := by rw [IntWalk.i64_in _ (by omega)]; rfl
            clear hst hV hD hq1 hk hAw hAb id ip iq iK lt1 lt2 hX0 s01 t0 sh16 hs8 hs8' hW1s st8 V8 hQk hfl hcell hat8 t8 s89 st9 V9 hat9 x9 hb1 hbX hgq hW9 hW1 CL HR a0 a1 a2 a3 a4 a5 e1 e2 hil hi0 hkv hu hq0' hb16
            have h4 : d % 4 = 0 ∨ d % 4 = 1 ∨ d % 4 = 2 ∨ d % 4 = 3 := by omega
            have hw4 := wrapd4 d
            rcases h4 with h4 | h4 | h4 | h4
            · rw [h4] at hw4
              go_wp2_with fail
              rw [← hW9'.out]
              obtain ⟨st9, V9, x9, t9, hb1, hbX, hgq⟩ := H9.out
              obtain ⟨hD, hq1, hk, id, iq, iK, lt1, lt2⟩ := HD.out
              have hPk : (Q.map (·.1))[k]? = some (s, T1) := by rw [List.getElem?_map, HQK.out]; rfl
              have hso := hD.ok (s, T1) (List.mem_of_getElem? hPk)
              have hso : SOk i s := hso
              have C := grow_any st9.mem s (.slice va s.atts.length vc) x9.atts ⟨hso.t0, hso.d0, hso.h0, hso.e1, by have := hso.al; omega⟩ q iq
              unfold Spc.val at C
              refine C.mono ?_
              clear C
              rintro e w10 ⟨hM10, hs10, ⟨h0, v', rfl, hv'⟩ | ⟨h0, rfl⟩⟩
              · obtain ⟨-, T2, hd1⟩ := (hD.grow hPk q).resolve_right (fun h => h.1 h0)
                have h10 := st9.call hM10 hs10
                have x10 := x9.mem st9.mem st9.lt.1 hs10
                have V10 := V9.mem st9.mem st9.lt.1 hs10
                have t10 : w10.cell? ⟨b16, 0, none⟩ = some (.int .i64 d) ∧ True := ⟨hs10.cell t9.1 (by have := st9.lt; simp only; omega), trivial⟩
                obtain ⟨va', vn', vc', rfl⟩ := atto_slice hv'
                have hun := (AttO.cells hv').1
                subst hun
                obtain ⟨W11, hW11⟩ : ∃ W, W = ((((w10.setCell ⟨w8.heap.size, 0, none⟩ (.int .i64 s.root)).setCell ⟨w8.heap.size, 1, none⟩ (.int .i64 s.text)).setCell ⟨w8.heap.size, 2, none⟩ (.int .i64 s.data)).setCell ⟨w8.heap.size, 3, none⟩ (.int .i64 (s.heap + q))).setCell ⟨w8.heap.size, 4, none⟩ (.slice va' s.atts.length vc') := ⟨_, rfl⟩
                obtain ⟨F11, s11⟩ := five_set hW11 x10.five
                have h11 := h10.box s11 x10.le
                have V11 := V10.box s11 x10.sh (by simp only [Value.ownBlock, ne_eq, Option.some.injEq]; exact hgq)
                have hat11 := hv'.same s11 (fun y hy m e => by subst hy; rw [x10.sh] at e; cases e)
                have C5 := Lib.hid (putS_any W11 w2.heap.size (some ⟨gq, 0, none⟩) cq Q.length (flatS Q) V11.own (flatS_one Q) (by omega) k hk s.root s.text s.data ((s.heap + q)) va' s.atts.length vc')
                have HE := Lib.hid (And.intro h11 (And.intro V11 (And.intro hat11 (And.intro hd1 (And.intro hq1 (And.intro hk (And.intro lt1 lt2)))))))
                have HW11 := Lib.hid hW11
                have g0 := x10.five.c0
                have g1 := x10.five.c1
                have g2 := x10.five.c2
                have g3 := x10.five.c3
                have g4 := x10.five.c4
                have z0 := x10.five.fz 0
                have z1 := x10.five.fz 1
                have z2 := x10.five.fz 2
                have z3 := x10.five.fz 3
                have z4 := x10.five.fz 4
                have m0 := t10.1
                have ne1 : ¬ b16 = w8.heap.size := by omega
                have ne2 : ¬ w8.heap.size = b16 := by omega
                clear st9 V9 x9 t9 hb1 hbX hgq hD hq1 hk id iq iK lt1 lt2 hPk hso h10 x10 V10 t10 hM10 hs10 hd1 hW11 F11 s11 h11 V11 hat11 hv' h0
                go_wp2_with fail
                rw [← HW11.out]
                refine C5.out.mono ?_
                rintro e w12 ⟨gp, cp, rfl, hown, hs12⟩
                obtain ⟨h11, V11, hat11, hd1, hq1, hk, lt1, lt2⟩ := HE.out
                obtain ⟨p1, p2⟩ := put_rel (s' := { s with heap := s.heap + q }) (T' := T2) h11 V11 hk hat11 hown hs12
                have HP := Lib.hid (And.intro p1 (And.intro p2 (And.intro hd1 (And.intro hq1 (And.intro lt1 lt2)))))
                clear h11 V11 hat11 hd1 hq1 hk lt1 lt2 p1 p2 hown hs12 C5 g0 g1 g2 g3 g4 z0 z1 z2 z3 z4 m0 ne1 ne2
                go_wp2
                obtain ⟨p1, p2, hd1, hq1, lt1, lt2⟩ := HP.out
                exact ⟨⟨i + 1, _, _, gp, cp, rfl, by rw [List.length_set], by omega, by omega, by rw [List.length_set]; omega, by rw [List.length_set]; omega, p1, p2, by rw [List.map_set]; exact hd1.more (Nat.le_succ i)⟩, by simp [intOf]; omega⟩
              · obtain ⟨-, hd1, hd2⟩ := (hD.grow hPk q).resolve_left (fun h => h0 h.1)
                have h10 := st9.call hM10 hs10
                have x10 := x9.mem st9.mem st9.lt.1 hs10
                have V10 := V9.mem st9.mem st9.lt.1 hs10
                have t10 : w10.cell? ⟨b16, 0, none⟩ = some (.int .i64 d) ∧ True := ⟨hs10.cell t9.1 (by have := st9.lt; simp only; omega), trivial⟩
                obtain ⟨W11, hW11⟩ : ∃ W, W = ((((w10.setCell ⟨w8.heap.size, 0, none⟩ (.int .i64 0)).setCell ⟨w8.heap.size, 1, none⟩ (.int .i64 0)).setCell ⟨w8.heap.size, 2, none⟩ (.int .i64 0)).setCell ⟨w8.heap.size, 3, none⟩ (.int .i64 0)).setCell ⟨w8.heap.size, 4, none⟩ (.slice none 0 0) := ⟨_, rfl⟩
                obtain ⟨F11, s11⟩ := five_set hW11 x10.five
                have h11 := h10.box s11 x10.le
                have V11 := V10.box s11 x10.sh (by simp only [Value.ownBlock, ne_eq, Option.some.injEq]; exact hgq)
                have CL := Lib.hid (left_any h11.mem)
                have hbe : (((M.grow s q).2) == 0) = false := by first | decide | simpa using h0
                have hnf : nfree ((M.grow s q).1).R ((M.grow s q).1).n = nfree M.R M.n := by first | rfl | (rw [hd1.n, hD.n]; exact hd2)
                rw [hnf] at CL
                have HE := Lib.hid (And.intro h11 (And.intro V11 (And.intro hd1 (And.intro hq1 (And.intro lt1 lt2)))))
                have HW11 := Lib.hid hW11
                have g0 := x10.five.c0
                have g1 := x10.five.c1
                have g2 := x10.five.c2
                have g3 := x10.five.c3
                have g4 := x10.five.c4
                have z0 := x10.five.fz 0
                have z1 := x10.five.fz 1
                have z2 := x10.five.fz 2
                have z3 := x10.five.fz 3
                have z4 := x10.five.fz 4
                clear st9 V9 x9 t9 hb1 hbX hgq hD hq1 hk id iq iK lt1 lt2 hPk hso h10 x10 V10 t10 hM10 hs10 hd1 hd2 hW11 F11 s11 h11 V11 hnf h0
                go_wp2_with fail
                rw [← HW11.out]
                refine CL.out.mono ?_
                rintro e w12 ⟨rfl, hs12⟩
                have HS12 := Lib.hid hs12
                clear hs12 CL g0 g1 g2 g3 g4 z0 z1 z2 z3 z4
                go_wp2
                obtain ⟨h11, V11, hd1, hq1, lt1, lt2⟩ := HE.out
                exact ⟨⟨i + 1, _, Q, gq, cq, rfl, rfl, by omega, by omega, hq0, by omega, h11.same0 HS12.out, V11.same0 HS12.out, hd1.more (Nat.le_succ i)⟩, by simp [intOf]; omega⟩
            · rw [h4] at hw4
              go_wp2_with fail
              rw [← hW9'.out]
              obtain ⟨st9, V9, x9, t9, hb1, hbX, hgq⟩ := H9.out
              obtain ⟨hD, hq1, hk, id, iq, iK, lt1, lt2⟩ := HD.out
              have hPk : (Q.map (·.1))[k]? = some (s, T1) := by rw [List.getElem?_map, HQK.out]; rfl
              have hso := hD.ok (s, T1) (List.mem_of_getElem? hPk)
              have hso : SOk i s := hso
              have hu : M.isUsed s.root = true := hD.used hPk
              have C := fork_any st9.mem s (.slice va s.atts.length vc) x9.atts (by have := hso.al; omega) hu
              unfold Spc.val at C
              refine C.mono ?_
              clear C hu
              rintro e w10 ⟨hM10, hs10, ⟨h0, v', rfl, hv'⟩ | ⟨h0, rfl⟩⟩
              · obtain ⟨-, T2, hd1⟩ := (hD.fork hPk).resolve_right (fun h => h.1 h0)
                have h10 := st9.call hM10 hs10
                have x10 := x9.mem st9.mem st9.lt.1 hs10
                have V10 := V9.mem st9.mem st9.lt.1 hs10
                have t10 : w10.cell? ⟨b16, 0, none⟩ = some (.int .i64 d) ∧ True := ⟨hs10.cell t9.1 (by have := st9.lt; simp only; omega), trivial⟩
                obtain ⟨va', vn', vc', rfl⟩ := atto_slice hv'
                have hun := (AttO.cells hv').1
                subst hun
                obtain ⟨W11, hW11⟩ : ∃ W, W = ((((w10.setCell ⟨w8.heap.size, 0, none⟩ (.int .i64 (M.fork s.root).2.1)).setCell ⟨w8.heap.size, 1, none⟩ (.int .i64 s.text)).setCell ⟨w8.heap.size, 2, none⟩ (.int .i64 s.data)).setCell ⟨w8.heap.size, 3, none⟩ (.int .i64 s.heap)).setCell ⟨w8.heap.size, 4, none⟩ (.slice va' s.atts.length vc') := ⟨_, rfl⟩
                obtain ⟨F11, s11⟩ := five_set hW11 x10.five
                have h11 := h10.box s11 x10.le
                have V11 := V10.box s11 x10.sh (by simp only [Value.ownBlock, ne_eq, Option.some.injEq]; exact hgq)
                have hat11 := hv'.same s11 (fun y hy m e => by subst hy; rw [x10.sh] at e; cases e)
                have HE := Lib.hid (And.intro h11 (And.intro V11 (And.intro hat11 (And.intro hd1 (And.intro hq1 (And.intro hk (And.intro lt1 lt2)))))))
                have HW11 := Lib.hid hW11
                have HF11 := Lib.hid F11
                have g0 := x10.five.c0
                have g1 := x10.five.c1
                have g2 := x10.five.c2
                have g3 := x10.five.c3
                have g4 := x10.five.c4
                have z0 := x10.five.fz 0
                have z1 := x10.five.fz 1
                have z2 := x10.five.fz 2
                have z3 := x10.five.fz 3
                have z4 := x10.five.fz 4
                have m0 := t10.1
                have ne1 : ¬ b16 = w8.heap.size := by omega
                have ne2 : ¬ w8.heap.size = b16 := by omega
                clear st9 V9 x9 t9 hb1 hbX hgq hD hq1 hk id iq iK lt1 lt2 hPk hso h10 x10 V10 t10 hM10 hs10 hd1 hW11 F11 s11 h11 V11 hat11 hv' h0
                go_wp2_with fail
                rw [← HW11.out]
                clear g0 g1 g2 g3 g4 z0 z1 z2 z3 z4 m0 ne1 ne2 c0 c1 c2 c3 c4
                obtain ⟨h11, V11, hat11, hd1, hq1, hk, lt1, lt2⟩ := HE.out
                have F11 := HF11.out
                have hfl := flatS_at Q k _ HQK.out
                simp only at hfl
                have hgq2 : gq < W11.heap.size := (ownsRow_shape V11.own (g := gq) rfl).2.1
                have hcw : ∀ W, Same (fun _ => False) W11 W → (W.cell? ⟨gq, k * 5, none⟩ = some (.int .i64 s.root) ∧ W.cell? ⟨gq, k * 5 + 1, none⟩ = some (.int .i64 s.text) ∧ W.cell? ⟨gq, k * 5 + 2, none⟩ = some (.int .i64 s.data) ∧ W.cell? ⟨gq, k * 5 + 3, none⟩ = some (.int .i64 s.heap) ∧ W.cell? ⟨gq, k * 5 + 4, none⟩ = some (.slice va s.atts.length vc)) ∧ Fl W w8.heap.size (.int .i64 (M.fork s.root).2.1) (.int .i64 s.text) (.int .i64 s.data) (.int .i64 s.heap) (.slice va' s.atts.length vc') := fun W hW => by
                  have hown := (V11.same0 hW).own
                  refine ⟨⟨?_, ?_, ?_, ?_, ?_⟩, F11.fl hW⟩
                  · rw [hown.cellAt _ (by omega)]; exact hfl.1
                  · rw [hown.cellAt _ (by omega)]; exact hfl.2.1
                  · rw [hown.cellAt _ (by omega)]; exact hfl.2.2.1
                  · rw [hown.cellAt _ (by omega)]; exact hfl.2.2.2.1
                  · rw [hown.cellAt _ (by omega)]; exact hfl.2.2.2.2
                have hset : set5 (flatS Q) k (.int .i64 s.root) (.int .i64 s.text) (.int .i64 s.data) (.int .i64 s.heap) (.slice va s.atts.length vc) = flatS Q := by
                  have h := flatS_set Q k ((s, T1), va, vc) hk
                  simp only at h
                  rw [h]
                  obtain ⟨hlt, e⟩ := List.getElem?_eq_some_iff.1 HQK.out
                  rw [← e, List.set_getElem_self]
                have C5 : ∀ W, Same (fun _ => False) W11 W → Calls Try.prog 55 #[.slice (some ⟨gq, 0, none⟩) Q.length cq, .int .i64 k, .agg #[.int .i64 s.root, .int .i64 s.text, .int .i64 s.data, .int .i64 s.heap, .slice va s.atts.length vc]] W fun e w' => ∃ v, e = .returned v ∧ ∃ gp cp, v = .slice (some ⟨gp, 0, none⟩) Q.length cp ∧ W11.heap.size ≤ gp ∧ Same (fun _ => False) W w' ∧ Fl w' w8.heap.size (.int .i64 (M.fork s.root).2.1) (.int .i64 s.text) (.int .i64 s.data) (.int .i64 s.heap) (.slice va' s.atts.length vc') ∧ Hid (w'.ownsRow w2.heap.size 75 5 (.slice (some ⟨gp, 0, none⟩) Q.length cp) Q.length (flatS Q)) := fun W hW => by
                  refine (putS_any W w2.heap.size (some ⟨gq, 0, none⟩) cq Q.length (flatS Q) (V11.same0 hW).own (flatS_one Q) (by omega) k hk s.root s.text s.data s.heap va s.atts.length vc).mono ?_
                  rintro e w' ⟨gp, cp, rfl, ho, hs⟩
                  rw [hset] at ho
                  have hz := hW.size
                  have hX := h11.same.size
                  have hgp : W.heap.size ≤ gp := (ownsRow_shape ho (g := gp) rfl).1
                  exact ⟨_, rfl, gp, cp, rfl, by omega, hs, (hcw w' (hW.trans hs)).2, Lib.hid (ownsRow_base ho (by omega))⟩
                have AP : ∀ (W : World) (gp cp blk : Nat), Hid (W.ownsRow w2.heap.size 75 5 (.slice (some ⟨gp, 0, none⟩) Q.length cp) Q.length (flatS Q)) → Hid (∀ (j : Nat) (u : Value), [Value.int .i64 (M.fork s.root).2.1, .int .i64 s.text, .int .i64 s.data, .int .i64 s.heap, .slice va' s.atts.length vc'][j]? = some u → W.cell? ((⟨blk, 0, none⟩ : Addr).add j) = some u) →
                    ∃ v' w', (Builtin.append_ #[91, 91] 91 #[.slice (some ⟨gp, 0, none⟩) Q.length cp, .slice (some ⟨blk, 0, none⟩) 1 1]).run Try.prog W = .ok v' w' ∧ Hid (w'.ownsRow w2.heap.size 75 5 v' (Q.length + 1) (flatS Q ++ [Value.int .i64 (M.fork s.root).2.1, .int .i64 s.text, .int .i64 s.data, .int .i64 s.heap, .slice va' s.atts.length vc']) ∧ Same (· = gp) W w') := fun W gp cp blk ho hsrc => by
                  obtain ⟨i0, hi0, hz0, hzs, hzb⟩ := info_parts info75
                  have hgp := ownsRow_shape ho.out (g := gp) rfl
                  obtain ⟨v', w', hrun, hown, hs, -⟩ := run_append_same (P := Try.prog) W w2.heap.size 91 91 75 i0 (.agg #[.int .i64 0, .int .i64 0, .int .i64 0, .int .i64 0, .slice none 0 0]) 5 56 Try.under91 hi0 hz0 hzs hzb rfl (by decide) _ Q.length (flatS Q) ho.out ⟨blk, 0, none⟩ 1 1 _ rfl hsrc.out (by simp [Value.oneCell']) (by unfold maxLen; omega) (by omega) (by omega)
                  exact ⟨v', w', hrun, Lib.hid ⟨hown, hs.mono (fun x _ hx => by simp only [Value.ownBlock, Option.some.injEq] at hx; omega)⟩⟩
                obtain ⟨l0, l1, l2, l3, l4⟩ := (hcw W11 (Same.refl _ _)).1
                have f0 := F11.c0
                have f1 := F11.c1
                have f2 := F11.c2
                have f3 := F11.c3
                have f4 := F11.c4
                have hgne : ¬ gq = W11.heap.size := by omega
                have hbne : ¬ w8.heap.size = W11.heap.size := by have := World.block_lt_of_cell? _ _ f0; simp only at this; omega
                have hkq : (k : Int) < (Q.length : Int) := by omega
                have hk0 : (0 : Int) ≤ (k : Int) := by omega
                have H2 := Lib.hid (And.intro h11 (And.intro V11 (And.intro hat11 (And.intro hd1 (And.intro hq1 (And.intro hk (And.intro lt1 lt2)))))))
                clear h11 V11 hat11 hd1 hq1 hk lt1 lt2 F11 hfl hcw hset HE
                obtain ⟨z11, hz11⟩ : ∃ z, Hid (z = W11.heap.size) := ⟨_, Lib.hid rfl⟩
                apply wp_viaF (S := fun gp v' w' => Hid (w'.ownsRow w2.heap.size 75 5 v' (Q.length + 1) (flatS Q ++ [Value.int .i64 (M.fork s.root).2.1, .int .i64 s.text, .int .i64 s.data, .int .i64 s.heap, .slice va' s.atts.length vc']) ∧ Same (fun x => z11 ≤ x) W11 w'))
                case h1 =>
                  go_region_law (first
                    | (refine step_callE rfl 55 (.tmp 152) (.tmp 153) (.tmp 157) #[91, 3, 75] rfl (enters_of Try.func55 (by kernel_rfl) rfl) (.slice (some ⟨gq, 0, none⟩) Q.length cq) (.int .i64 k) (.agg #[.int .i64 s.root, .int .i64 s.text, .int .i64 s.data, .int .i64 s.heap, .slice va s.atts.length vc]) (by go_simp) (by go_simp) (by go_simp) (C5 _ (by first | with_reducible exact Same.refl _ _ | with_reducible exact (Same.refl _ _).drew | with_reducible exact ((Same.refl _ _).drew).alloc _ | with_reducible exact ((Same.refl _ _).alloc _).drew)) ?_
                       rintro v wq ⟨gp, cp, rfl, hgp, hsq, ⟨c0, c1, c2, c3, c4⟩, hoq⟩)
                    | (obtain ⟨v7, w7, hrun, hpo⟩ := AP (wq.alloc (.cells #[.int .i64 (M.fork s.root).2.1, .int .i64 s.text, .int .i64 s.data, .int .i64 s.heap, .slice va' s.atts.length vc'] 75)) gp cp wq.heap.size (Lib.hid (ownsRow_same hoq.out (same_alloc _) (fun _ _ h => h))) (Lib.hid (fun j u hu => cells_new rfl hu))
                       refine step_append_run (v' := v7) (w' := w7) rfl (.tmp 158) (.tmp 160) 91 rfl (.slice (some ⟨gp, 0, none⟩) Q.length cp) (.slice (some ⟨wq.heap.size, 0, none⟩) 1 1) (by go_simp) (by go_simp) (by with_reducible exact hrun) ?_)
                    | (obtain ⟨v7, w7, hrun, hpo⟩ := AP wq gp cp W11.heap.size hoq (Lib.hid (fun j u hu => hsq.cell ((cell_drew' _ _).trans (cells_new rfl hu)) (fun h => h)))
                       refine step_append_run (v' := v7) (w' := w7) rfl (.tmp 158) (.tmp 160) 91 rfl (.slice (some ⟨gp, 0, none⟩) Q.length cp) (.slice (some ⟨W11.heap.size, 0, none⟩) 1 1) (by go_simp) (by go_simp) (by with_reducible exact hrun) ?_))
                  all_goals go_simp
                  all_goals
                    have hq11 : Same (fun _ => False) W11 wq := by first | with_reducible exact ((Same.refl _ _).drew).trans hsq | with_reducible exact (((Same.refl _ _).drew).alloc _).trans hsq | with_reducible exact (((Same.refl _ _).alloc _).drew).trans hsq | with_reducible exact hsq
                    have hkey : Hid (w7.ownsRow w2.heap.size 75 5 v7 (Q.length + 1) (flatS Q ++ [Value.int .i64 (M.fork s.root).2.1, .int .i64 s.text, .int .i64 s.data, .int .i64 s.heap, .slice va' s.atts.length vc']) ∧ Same (fun x => z11 ≤ x) W11 w7) := by
                      refine Lib.hid ⟨hpo.out.1, ?_⟩
                      first
                        | exact ((hq11.trans (same_alloc _)).mono (T := fun x => z11 ≤ x) (fun _ _ h => h.elim)).trans (hpo.out.2.mono (fun x _ hx => by have := hz11.out; omega))
                        | exact (hq11.mono (T := fun x => z11 ≤ x) (fun _ _ h => h.elim)).trans (hpo.out.2.mono (fun x _ hx => by have := hz11.out; omega))
                    first
                      | (obtain ⟨blk, hblk⟩ : ∃ b, b = wq.heap.size := ⟨_, rfl⟩
                         rw [← hblk]
                         exact ⟨gp, cp, blk, v7, hkey, rfl⟩)
                      | (obtain ⟨blk, hblk⟩ : ∃ b, b = W11.heap.size := ⟨_, rfl⟩
                         rw [← hblk]
                         exact ⟨gp, cp, blk, v7, hkey, rfl⟩)
                rintro gp cp blk v7 w12 hkey
                obtain ⟨h11, V11, hat11, hd1, hq1, hk, lt1, lt2⟩ := H2.out
                obtain ⟨hown, hs12⟩ := hkey.out
                obtain ⟨g3, c3, rfl⟩ := own_row_succ hown
                have hnew : ∀ x, z11 ≤ x → ∀ n, W11.shape? x ≠ some (164, n) := fun x hx n e => by
                  have : W11.shape? x = none := by unfold World.shape?; rw [Array.getElem?_eq_none (by have := hz11.out; omega)]
                  rw [this] at e; cases e
                obtain ⟨Q2, hQ2⟩ : ∃ Q2, Q2 = Q ++ [(({ s with root := (M.fork s.root).2.1 }, T2), va', vc')] := ⟨_, rfl⟩
                have hQl : Q2.length = Q.length + 1 := by rw [hQ2]; simp
                have hlt12 := h11.lt
                have hX12 := h11.same.size
                have hz12 := hz11.out
                have hfw := h11.mem.lt
                have p1 : ShW w2 w12 f fb (M.fork s.root).1 := ⟨h11.mem.same hs12 (by omega) (by omega), h11.same.trans (hs12.mono (fun x _ hx => .inr (by omega))), h11.lt⟩
                have p2 : DrV w2 w12 (.slice (some ⟨g3, 0, none⟩) Q2.length c3) Q2 := by
                  refine ⟨?_, fun x hx => ?_⟩
                  · rw [hQl, hQ2, flatS_append]; exact hown
                  · rw [hQ2] at hx
                    rcases List.mem_append.1 hx with h | h
                    · exact (V11.att x h).same hs12 hnew
                    · rw [List.mem_singleton] at h
                      subst h
                      exact hat11.same hs12 hnew
                have hd2 : DrI (M.fork s.root).1 n (i + 1) (Q2.map (·.1)) := by rw [hQ2, List.map_append]; exact hd1.more (Nat.le_succ i)
                rw [← hQl]
                have HP := Lib.hid (And.intro p1 (And.intro p2 (And.intro hd2 (And.intro hq1 (And.intro lt1 lt2)))))
                clear h11 V11 hat11 hd1 hq1 hk lt1 lt2 hown hs12 hnew hlt12 hX12 hz12 hfw p1 p2 hd2 C5 AP l0 l1 l2 l3 l4 f0 f1 f2 f3 f4 hgne hbne H2 hkey
                go_wp2
                obtain ⟨p1, p2, hd2, hq1, lt1, lt2⟩ := HP.out
                exact ⟨⟨i + 1, _, Q2, g3, c3, rfl, rfl, by omega, by omega, by omega, by omega, p1, p2, hd2⟩, by simp [intOf]; omega⟩
              · obtain ⟨-, hd1, hd2⟩ := (hD.fork hPk).resolve_left (fun h => h0 h.1)
                have h0 : ¬ (11 : Int) = 0 := by decide
                have h10 := st9.call hM10 hs10
                have x10 := x9.mem st9.mem st9.lt.1 hs10
                have V10 := V9.mem st9.mem st9.lt.1 hs10
                have t10 : w10.cell? ⟨b16, 0, none⟩ = some (.int .i64 d) ∧ True := ⟨hs10.cell t9.1 (by have := st9.lt; simp only; omega), trivial⟩
                obtain ⟨W11, hW11⟩ : ∃ W, W = ((((w10.setCell ⟨w8.heap.size, 0, none⟩ (.int .i64 0)).setCell ⟨w8.heap.size, 1, none⟩ (.int .i64 0)).setCell ⟨w8.heap.size, 2, none⟩ (.int .i64 0)).setCell ⟨w8.heap.size, 3, none⟩ (.int .i64 0)).setCell ⟨w8.heap.size, 4, none⟩ (.slice none 0 0) := ⟨_, rfl⟩
                obtain ⟨F11, s11⟩ := five_set hW11 x10.five
                have h11 := h10.box s11 x10.le
                have V11 := V10.box s11 x10.sh (by simp only [Value.ownBlock, ne_eq, Option.some.injEq]; exact hgq)
                have CL := Lib.hid (left_any h11.mem)
                have hbe : (((11 : Int)) == 0) = false := by first | decide | simpa using h0
                have hnf : nfree ((M.fork s.root).1).R ((M.fork s.root).1).n = nfree M.R M.n := by first | rfl | (rw [hd1.n, hD.n]; exact hd2)
                rw [hnf] at CL
                have HE := Lib.hid (And.intro h11 (And.intro V11 (And.intro hd1 (And.intro hq1 (And.intro lt1 lt2)))))
                have HW11 := Lib.hid hW11
                have g0 := x10.five.c0
                have g1 := x10.five.c1
                have g2 := x10.five.c2
                have g3 := x10.five.c3
                have g4 := x10.five.c4
                have z0 := x10.five.fz 0
                have z1 := x10.five.fz 1
                have z2 := x10.five.fz 2
                have z3 := x10.five.fz 3
                have z4 := x10.five.fz 4
                clear st9 V9 x9 t9 hb1 hbX hgq hD hq1 hk id iq iK lt1 lt2 hPk hso h10 x10 V10 t10 hM10 hs10 hd1 hd2 hW11 F11 s11 h11 V11 hnf h0
                go_wp2_with fail
                rw [← HW11.out]
                refine CL.out.mono ?_
                rintro e w12 ⟨rfl, hs12⟩
                have HS12 := Lib.hid hs12
                clear hs12 CL g0 g1 g2 g3 g4 z0 z1 z2 z3 z4
                go_wp2
                obtain ⟨h11, V11, hd1, hq1, lt1, lt2⟩ := HE.out
                exact ⟨⟨i + 1, _, Q, gq, cq, rfl, rfl, by omega, by omega, hq0, by omega, h11.same0 HS12.out, V11.same0 HS12.out, hd1.more (Nat.le_succ i)⟩, by simp [intOf]; omega⟩
            · rw [h4] at hw4
              go_wp2_with fail
              rw [← hW9'.out]
              obtain ⟨st9, V9, x9, t9, hb1, hbX, hgq⟩ := H9.out
              obtain ⟨hD, hq1, hk, id, iq, iK, lt1, lt2⟩ := HD.out
              have hPk : (Q.map (·.1))[k]? = some (s, T1) := by rw [List.getElem?_map, HQK.out]; rfl
              have hso := hD.ok (s, T1) (List.mem_of_getElem? hPk)
              have hso : SOk i s := hso
              obtain ⟨m, hm⟩ : ∃ m : Nat, q % 4 = m := ⟨(q % 4).toNat, by omega⟩
              obtain ⟨hgv, hgl⟩ := givenL_take (m + 1) (by omega) (by omega)
              have hfl : ∀ W, Same (fun _ => False) W9 W → (W.cell? ⟨b16, 2, none⟩ = some (.int .i64 q) ∧ W.cell? ⟨b16, 3, none⟩ = some (.int .i64 K) ∧ W.cell? ⟨b16, 4, none⟩ = some (.bool wrt)) ∧ Fl W w8.heap.size (.int .i64 s.root) (.int .i64 s.text) (.int .i64 s.data) (.int .i64 s.heap) (.slice va s.atts.length vc) := fun W h =>
                ⟨⟨h.cell t9.2.1 (fun h => h), h.cell t9.2.2.1 (fun h => h), h.cell t9.2.2.2 (fun h => h)⟩, x9.five.fl h⟩
              have cg : ∀ W, Same (fun _ => False) W9 W → Calls Try.prog 52 #[.int .i64 q] W fun e w' => ∃ v, e = .returned v ∧ ∃ gg, v = .slice (some ⟨gg, 0, none⟩) (m + 1) 4 ∧ Same (fun _ => False) W9 w' ∧ (w'.cell? ⟨b16, 2, none⟩ = some (.int .i64 q) ∧ w'.cell? ⟨b16, 3, none⟩ = some (.int .i64 K) ∧ w'.cell? ⟨b16, 4, none⟩ = some (.bool wrt)) ∧ Fl w' w8.heap.size (.int .i64 s.root) (.int .i64 s.text) (.int .i64 s.data) (.int .i64 s.heap) (.slice va s.atts.length vc) ∧ Hid (IntsO w' (some ⟨gg, 0, none⟩) (givenF.take (m + 1))) := fun W hW =>
                (given_all W q m hm).mono fun e w' ⟨a, b, c⟩ => ⟨_, a, _, rfl, hW.trans c, (hfl _ (hW.trans c)).1, (hfl _ (hW.trans c)).2, Lib.hid b⟩
              have ca : ∀ W W1 gg, Same (fun _ => False) W9 W1 → Hid (IntsO W1 (some ⟨gg, 0, none⟩) (givenF.take (m + 1))) → Same (fun _ => False) W1 W → Calls Try.prog 51 #[.pointer (some ⟨f, 0, none⟩), .agg #[.int .i64 s.root, .int .i64 s.text, .int .i64 s.data, .int .i64 s.heap, .slice va s.atts.length vc], .int .i64 K, .slice (some ⟨gg, 0, none⟩) (m + 1) 4, .bool wrt] W fun e w' =>
                  ∃ v, e = .returned v ∧ ∃ r t d h ua un uc er, v = .tuple #[.agg #[.int .i64 r, .int .i64 t, .int .i64 d, .int .i64 h, .slice ua un uc], .int .i64 er] ∧ (w'.cell? ⟨b16, 2, none⟩ = some (.int .i64 q) ∧ w'.cell? ⟨b16, 3, none⟩ = some (.int .i64 K) ∧ w'.cell? ⟨b16, 4, none⟩ = some (.bool wrt)) ∧ Fl w' w8.heap.size (.int .i64 s.root) (.int .i64 s.text) (.int .i64 s.data) (.int .i64 s.heap) (.slice va s.atts.length vc) ∧ Fz w' w8.heap.size ∧
                  Hid (AttR W9 w' f fb s K (givenF.take (m + 1)) wrt (M.attach s K (givenF.take (m + 1)) wrt) r t d h ua un uc er) := fun W W1 gg h1 h2 h3 => by
                have h := att_rawR st9.mem s va vc x9.atts (by have := hso.al; omega) K iK (some ⟨gg, 0, none⟩) 4 (givenF.take (m + 1)) (by omega) wrt h1 h2 h3
                rw [hgl] at h
                refine h.mono fun e w' ⟨r, t, d, h, ua, un, uc, er, e1, e2⟩ => ?_
                have x := x9.mem st9.mem st9.lt.1 e2.same
                exact ⟨_, e1, r, t, d, h, ua, un, uc, er, rfl, ⟨e2.same.cell t9.2.1 (by have := st9.lt; simp only; omega), e2.same.cell t9.2.2.1 (by have := st9.lt; simp only; omega), e2.same.cell t9.2.2.2 (by have := st9.lt; simp only; omega)⟩, x.five.fl (Same.refl _ _), x.five.fz5, Lib.hid e2⟩
              have q2 := t9.2.1
              have q3 := t9.2.2.1
              have q4 := t9.2.2.2
              have g0 := x9.five.c0
              have g1 := x9.five.c1
              have g2 := x9.five.c2
              have g3 := x9.five.c3
              have g4 := x9.five.c4
              have ne1 : ¬ b16 = w8.heap.size := by omega
              have ne2 : ¬ w8.heap.size = b16 := by omega
              have HA2 := Lib.hid (And.intro st9 (And.intro V9 (And.intro x9 (And.intro t9 (And.intro hb1 (And.intro hgq (And.intro hD (And.intro hq1 (And.intro hk (And.intro lt1 (And.intro lt2 (And.intro hPk (And.intro hso (And.intro hgv hgl))))))))))))))
              clear u0 u2 u3 u4 st9 V9 x9 t9 hb1 hbX hgq hD hq1 hk id iq iK lt1 lt2 hPk hso hgv hgl hm c0 c1 c2 c3 c4
              apply wp_viaD (S := fun b g r t d h ua un uc er W => ∃ wp, AttR W9 wp f fb s K (givenF.take (m + 1)) wrt (M.attach s K (givenF.take (m + 1)) wrt) r t d h ua un uc er ∧ W = ((((wp.setCell ⟨w8.heap.size, 0, none⟩ (.int .i64 r)).setCell ⟨w8.heap.size, 1, none⟩ (.int .i64 t)).setCell ⟨w8.heap.size, 2, none⟩ (.int .i64 d)).setCell ⟨w8.heap.size, 3, none⟩ (.int .i64 h)).setCell ⟨w8.heap.size, 4, none⟩ (.slice ua un uc))
              case h1 =>
                exact region28 W9 f b16 w8.heap.size m q K wrt s.root s.text s.data s.heap va s.atts.length vc (givenF.take (m + 1)) ne1 ne2 (fun wp r t d h ua un uc er => AttR W9 wp f fb s K (givenF.take (m + 1)) wrt (M.attach s K (givenF.take (m + 1)) wrt) r t d h ua un uc er) cg ca q2 q3 q4 g0 g1 g2 g3 g4
              rintro b gg r1 t1 u1 h1 ua un uc er W11 ⟨w10, hap, hW11⟩
              clear hfl cg ca q2 q3 q4 g0 g1 g2 g3 g4
              obtain ⟨st9, V9, x9, t9, hb1, hgq, hD, hq1, hk, lt1, lt2, hPk, hso, hgv, hgl⟩ := HA2.out
              have hs10 := hap.same
              have hM10 := hap.mem
              have h10 := st9.call hM10 hs10
              have x10 := x9.mem st9.mem st9.lt.1 hs10
              have V10 := V9.mem st9.mem st9.lt.1 hs10
              obtain ⟨F11, s11⟩ := five_set hW11 x10.five
              have h11 := h10.box s11 x10.le
              have V11 := V10.box s11 x10.sh (by simp only [Value.ownBlock, ne_eq, Option.some.injEq]; exact hgq)
              rcases hD.attach (by have := HN.out; omega) hPk K (givenF.take (m + 1)) wrt hgv with ⟨h0, hd0⟩ | ⟨h0, hd1, hd2⟩
              · have er0 : er = 0 := hap.er.trans h0
                subst er0
                obtain ⟨l', rfl, rfl, rfl, rfl, hv', hp'⟩ := hap.ok h0
                obtain ⟨T2, hd1⟩ := hd0 l' hp'
                have hun := (AttO.cells hv').1
                subst hun
                have hat11 := hv'.same s11 (fun y hy m e => by subst hy; rw [x10.sh] at e; cases e)
                have C5 := Lib.hid (putS_any W11 w2.heap.size (some ⟨gq, 0, none⟩) cq Q.length (flatS Q) V11.own (flatS_one Q) (by omega) k hk s.root s.text s.data s.heap ua l'.length uc)
                have HE := Lib.hid (And.intro h11 (And.intro V11 (And.intro hat11 (And.intro hd1 (And.intro hq1 (And.intro hk (And.intro lt1 lt2)))))))
                have g0 := F11.c0
                have g1 := F11.c1
                have g2 := F11.c2
                have g3 := F11.c3
                have g4 := F11.c4
                have m0 : W11.cell? ⟨b16, 0, none⟩ = some (.int .i64 d) := s11.cell (hs10.cell t9.1 (by have := st9.lt; have := H9.out.2.2.2.2.2.1; simp only; omega)) ne1
                clear st9 V9 x9 t9 hb1 hgq hD hq1 hk lt1 lt2 hPk hso hgv hgl h10 x10 V10 hM10 hs10 hd1 hd0 F11 s11 h11 V11 hat11 hv' hp' hap h0 HA2 hW11
                go_wp2_with fail
                refine C5.out.mono ?_
                rintro e w12 ⟨gp, cp, rfl, hown, hs12⟩
                obtain ⟨h11, V11, hat11, hd1, hq1, hk, lt1, lt2⟩ := HE.out
                obtain ⟨p1, p2⟩ := put_rel (s' := { s with atts := l' }) (T' := T2) h11 V11 hk hat11 hown hs12
                have HP := Lib.hid (And.intro p1 (And.intro p2 (And.intro hd1 (And.intro hq1 (And.intro lt1 lt2)))))
                clear h11 V11 hat11 hd1 hq1 hk lt1 lt2 p1 p2 hown hs12 C5 g0 g1 g2 g3 g4 m0 ne1 ne2
                go_wp2
                obtain ⟨p1, p2, hd1, hq1, lt1, lt2⟩ := HP.out
                exact ⟨⟨i + 1, _, _, gp, cp, rfl, by rw [List.length_set], by omega, by omega, by rw [List.length_set]; omega, by rw [List.length_set]; omega, p1, p2, by rw [List.map_set]; exact hd1⟩, by simp [intOf]; omega⟩
              · have CL := Lib.hid (left_any h11.mem)
                have hbe : (er == 0) = false := by rw [hap.er]; simpa using h0
                have hnf : nfree (M.attach s K (givenF.take (m + 1)) wrt).1.R (M.attach s K (givenF.take (m + 1)) wrt).1.n = nfree M.R M.n := by rw [hd1.n, hD.n]; exact hd2
                rw [hnf] at CL
                have HE := Lib.hid (And.intro h11 (And.intro V11 (And.intro hd1 (And.intro hq1 (And.intro lt1 lt2)))))
                clear st9 V9 x9 t9 hb1 hgq hD hq1 hk lt1 lt2 hPk hso hgv hgl h10 x10 V10 hM10 hs10 hd1 hd2 F11 s11 h11 V11 hap hnf h0 HA2 hW11 ne1 ne2
                go_wp2_with fail
                refine CL.out.mono ?_
                rintro e w12 ⟨rfl, hs12⟩
                have HS12 := Lib.hid hs12
                clear hs12 CL
                go_wp2
                obtain ⟨h11, V11, hd1, hq1, lt1, lt2⟩ := HE.out
                exact ⟨⟨i + 1, _, Q, gq, cq, rfl, rfl, by omega, by omega, hq0, by omega, h11.same0 HS12.out, V11.same0 HS12.out, hd1.more (Nat.le_succ i)⟩, by simp [intOf]; omega⟩
            · rw [h4] at hw4
              go_wp2_with fail
              rw [← hW9'.out]
              obtain ⟨st9, V9, x9, t9, hb1, hbX, hgq⟩ := H9.out
              obtain ⟨hD, hq1, hk, id, iq, iK, lt1, lt2⟩ := HD.out
              have hPk : (Q.map (·.1))[k]? = some (s, T1) := by rw [List.getElem?_map, HQK.out]; rfl
              have hso := hD.ok (s, T1) (List.mem_of_getElem? hPk)
              have hso : SOk i s := hso
              have C := detach_any st9.mem s va vc x9.atts (by have := hso.al; omega) hso.ao K iK
              unfold DetQ Spc.val at C
              refine C.mono ?_
              clear C
              rintro e w10 ⟨hs10, ⟨-, hM10, rfl⟩ | ⟨i', x', v', -, -, -, hM10, rfl, hv'⟩⟩
              · have hd1 := hD
                have hd2 : nfree M.R n = nfree M.R n := rfl
                have h0 : ¬ (2 : Int) = 0 := by decide
                have h10 := st9.call hM10 hs10
                have x10 := x9.mem st9.mem st9.lt.1 hs10
                have V10 := V9.mem st9.mem st9.lt.1 hs10
                have t10 : w10.cell? ⟨b16, 0, none⟩ = some (.int .i64 d) ∧ True := ⟨hs10.cell t9.1 (by have := st9.lt; simp only; omega), trivial⟩
                obtain ⟨W11, hW11⟩ : ∃ W, W = ((((w10.setCell ⟨w8.heap.size, 0, none⟩ (.int .i64 0)).setCell ⟨w8.heap.size, 1, none⟩ (.int .i64 0)).setCell ⟨w8.heap.size, 2, none⟩ (.int .i64 0)).setCell ⟨w8.heap.size, 3, none⟩ (.int .i64 0)).setCell ⟨w8.heap.size, 4, none⟩ (.slice none 0 0) := ⟨_, rfl⟩
                obtain ⟨F11, s11⟩ := five_set hW11 x10.five
                have h11 := h10.box s11 x10.le
                have V11 := V10.box s11 x10.sh (by simp only [Value.ownBlock, ne_eq, Option.some.injEq]; exact hgq)
                have CL := Lib.hid (left_any h11.mem)
                have hbe : (((2 : Int)) == 0) = false := by first | decide | simpa using h0
                have hnf : nfree (M).R (M).n = nfree M.R M.n := by first | rfl | (rw [hd1.n, hD.n]; exact hd2)
                rw [hnf] at CL
                have HE := Lib.hid (And.intro h11 (And.intro V11 (And.intro hd1 (And.intro hq1 (And.intro lt1 lt2)))))
                have HW11 := Lib.hid hW11
                have g0 := x10.five.c0
                have g1 := x10.five.c1
                have g2 := x10.five.c2
                have g3 := x10.five.c3
                have g4 := x10.five.c4
                have z0 := x10.five.fz 0
                have z1 := x10.five.fz 1
                have z2 := x10.five.fz 2
                have z3 := x10.five.fz 3
                have z4 := x10.five.fz 4
                clear st9 V9 x9 t9 hb1 hbX hgq hD hq1 hk id iq iK lt1 lt2 hPk hso h10 x10 V10 t10 hM10 hs10 hd1 hd2 hW11 F11 s11 h11 V11 hnf h0
                go_wp2_with fail
                rw [← HW11.out]
                refine CL.out.mono ?_
                rintro e w12 ⟨rfl, hs12⟩
                have HS12 := Lib.hid hs12
                clear hs12 CL g0 g1 g2 g3 g4 z0 z1 z2 z3 z4
                go_wp2
                obtain ⟨h11, V11, hd1, hq1, lt1, lt2⟩ := HE.out
                exact ⟨⟨i + 1, _, Q, gq, cq, rfl, rfl, by omega, by omega, hq0, by omega, h11.same0 HS12.out, V11.same0 HS12.out, hd1.more (Nat.le_succ i)⟩, by simp [intOf]; omega⟩
              · obtain ⟨T2, hd1⟩ := hD.detach hPk K x'.ct.toNat i'
                have h0 : True := trivial
                obtain ⟨la, hla⟩ : ∃ l, l = s.atts.eraseIdx i' := ⟨_, rfl⟩
                rw [← hla] at hv' hd1 ⊢
                clear hla
                have h10 := st9.call hM10 hs10
                have x10 := x9.mem st9.mem st9.lt.1 hs10
                have V10 := V9.mem st9.mem st9.lt.1 hs10
                have t10 : w10.cell? ⟨b16, 0, none⟩ = some (.int .i64 d) ∧ True := ⟨hs10.cell t9.1 (by have := st9.lt; simp only; omega), trivial⟩
                obtain ⟨va', vn', vc', rfl⟩ := atto_slice hv'
                have hun := (AttO.cells hv').1
                subst hun
                obtain ⟨W11, hW11⟩ : ∃ W, W = ((((w10.setCell ⟨w8.heap.size, 0, none⟩ (.int .i64 s.root)).setCell ⟨w8.heap.size, 1, none⟩ (.int .i64 s.text)).setCell ⟨w8.heap.size, 2, none⟩ (.int .i64 s.data)).setCell ⟨w8.heap.size, 3, none⟩ (.int .i64 s.heap)).setCell ⟨w8.heap.size, 4, none⟩ (.slice va' la.length vc') := ⟨_, rfl⟩
                obtain ⟨F11, s11⟩ := five_set hW11 x10.five
                have h11 := h10.box s11 x10.le
                have V11 := V10.box s11 x10.sh (by simp only [Value.ownBlock, ne_eq, Option.some.injEq]; exact hgq)
                have hat11 := hv'.same s11 (fun y hy m e => by subst hy; rw [x10.sh] at e; cases e)
                have C5 := Lib.hid (putS_any W11 w2.heap.size (some ⟨gq, 0, none⟩) cq Q.length (flatS Q) V11.own (flatS_one Q) (by omega) k hk s.root s.text s.data (s.heap) va' la.length vc')
                have HE := Lib.hid (And.intro h11 (And.intro V11 (And.intro hat11 (And.intro hd1 (And.intro hq1 (And.intro hk (And.intro lt1 lt2)))))))
                have HW11 := Lib.hid hW11
                have g0 := x10.five.c0
                have g1 := x10.five.c1
                have g2 := x10.five.c2
                have g3 := x10.five.c3
                have g4 := x10.five.c4
                have z0 := x10.five.fz 0
                have z1 := x10.five.fz 1
                have z2 := x10.five.fz 2
                have z3 := x10.five.fz 3
                have z4 := x10.five.fz 4
                have m0 := t10.1
                have ne1 : ¬ b16 = w8.heap.size := by omega
                have ne2 : ¬ w8.heap.size = b16 := by omega
                clear st9 V9 x9 t9 hb1 hbX hgq hD hq1 hk id iq iK lt1 lt2 hPk hso h10 x10 V10 t10 hM10 hs10 hd1 hW11 F11 s11 h11 V11 hat11 hv' h0
                go_wp2_with fail
                rw [← HW11.out]
                refine C5.out.mono ?_
                rintro e w12 ⟨gp, cp, rfl, hown, hs12⟩
                obtain ⟨h11, V11, hat11, hd1, hq1, hk, lt1, lt2⟩ := HE.out
                obtain ⟨p1, p2⟩ := put_rel (s' := { s with atts := la }) (T' := T2) h11 V11 hk hat11 hown hs12
                have HP := Lib.hid (And.intro p1 (And.intro p2 (And.intro hd1 (And.intro hq1 (And.intro lt1 lt2)))))
                clear h11 V11 hat11 hd1 hq1 hk lt1 lt2 p1 p2 hown hs12 C5 g0 g1 g2 g3 g4 z0 z1 z2 z3 z4 m0 ne1 ne2
                go_wp2
                obtain ⟨p1, p2, hd1, hq1, lt1, lt2⟩ := HP.out
                exact ⟨⟨i + 1, _, _, gp, cp, rfl, by rw [List.length_set], by omega, by omega, by rw [List.length_set]; omega, by rw [List.length_set]; omega, p1, p2, by rw [List.map_set]; exact hd1.more (Nat.le_succ i)⟩, by simp [intOf]; omega⟩
          · have HLT0 := Lib.hid hlt
            have HR := Lib.hid (And.intro hst (And.intro hV (And.intro hD (And.intro hq0 hq1))))
            clear hst hV hD hlt hi hi4 hq0 hq1
            by_cases e1 : i < len
            case' pos =>
              have e2n : ¬ i < 40 := by have := HLT0.out; omega
              have e2' : decide ((i : Int) < 40) = false := by simp; omega
              go_wp2_with fail
            case' neg => go_wp2_with fail
            all_goals
              go_loopw [21] (fun v21 wt => ∃ (j : Nat) (N : Mm), v21 = .int .i64 j ∧ j ≤ Q.length ∧ ShW w2 wt f fb N ∧ DrV w2 wt (.slice (some ⟨gq, 0, none⟩) Q.length cq) Q ∧ DrI N n i ((Q.map (·.1)).drop j)) (fun v21 _ => Q.length - (intOf v21).toNat)
              case atStart => exact ⟨0, M, rfl, by omega, HR.out.1, HR.out.2.1, HR.out.2.2.1⟩
              case round =>
                obtain ⟨j, N, rfl, hj, hst, hV, hD⟩ := hrel
                have hq1 := HR.out.2.2.2.2
                have hi40 : i ≤ 40 := HI40.out
                by_cases hlt : j < Q.length
                · have d1 : decide ((j : Int) < (Q.length : Int)) = true := by simp; omega
                  have hjq : (j : Int) < (Q.length : Int) := by omega
                  have hj0 : (0 : Int) ≤ (j : Int) := by omega
                  obtain ⟨⟨⟨s, T1⟩, va, vc⟩, hQk⟩ : ∃ x, Q[j]? = some x := ⟨_, List.getElem?_eq_getElem hlt⟩
                  have hfl := flatS_at Q j _ hQk
                  simp only at hfl
                  have hcell : ∀ (o : Nat) (u : Value), o < 5 → (flatS Q)[j * 5 + o]? = some u → wr.cell? ⟨gq, j * 5 + o, none⟩ = some u := fun o u ho hu => by
                    rw [hV.own.cellAt _ (by omega)]; exact hu
                  have c0 : wr.cell? ⟨gq, j * 5, none⟩ = some (.int .i64 s.root) := hcell 0 _ (by omega) hfl.1
                  have c1 := hcell 1 _ (by omega) hfl.2.1
                  have c2 := hcell 2 _ (by omega) hfl.2.2.1
                  have c3 := hcell 3 _ (by omega) hfl.2.2.2.1
                  have c4 := hcell 4 _ (by omega) hfl.2.2.2.2
                  have hdr : (Q.map (·.1)).drop j = (s, T1) :: (Q.map (·.1)).drop (j + 1) := by
                    rw [List.drop_eq_getElem_cons (by simpa using hlt), List.getElem_map]
                    rw [(List.getElem?_eq_some_iff.1 hQk).2]
                  rw [hdr] at hD
                  obtain ⟨z0, hD2⟩ := hD.drop
                  have C := dropSp_any hst.mem s va s.atts.length vc
                  unfold Spc.val at C
                  rw [z0] at C
                  have C := Lib.hid C
                  have hj1 : IntKind.i64.wrap ((j : Int) + 1) = ((j + 1 : Nat) : Int) := by rw [IntWalk.i64_in _ (by omega)]; rfl
                  have HK := Lib.hid (And.intro hst (And.intro hV (And.intro hD2 hlt)))
                  clear hst hV hD hD2 hlt hj hq1 hi40 hQk hfl hcell hdr z0
                  go_wp2_with fail
                  refine C.out.mono ?_
                  rintro e w6 ⟨rfl, hM6, hs6⟩
                  obtain ⟨hst, hV, hD2, hlt⟩ := HK.out
                  have p1 := hst.call hM6 hs6
                  have p2 := hV.mem hst.mem hst.lt.1 hs6
                  have HP := Lib.hid (And.intro p1 (And.intro p2 (And.intro hD2 hlt)))
                  clear hst hV hD2 hlt p1 p2 hM6 hs6 C c0 c1 c2 c3 c4
                  go_wp2
                  obtain ⟨p1, p2, hD2, hlt⟩ := HP.out
                  exact ⟨⟨j + 1, _, rfl, by omega, p1, p2, hD2⟩, by simp [intOf]; omega⟩
                · obtain rfl : j = Q.length := by omega
                  have d1 : decide ((Q.length : Int) < (Q.length : Int)) = false := by simp
                  have hnil : (Q.map (·.1)).drop Q.length = [] := List.drop_eq_nil_of_le (by simp)
                  rw [hnil] at hD
                  obtain ⟨z1, z2, z3⟩ := hD.done (by have := HN.out; omega)
                  have hL : nfree N.R N.n = L0 := by rw [hD.n, z1, HL0.out, taken_n]
                  have C1 := Lib.hid (left_any hst.mem)
                  rw [hL] at C1
                  have hz := Lib.hid (And.intro z2 z3)
                  have HS := Lib.hid hst
                  clear hst hV hD z1 z2 z3 hL hnil hlt hq1 hi40 hj
                  go_wp2_with fail
                  refine C1.out.mono ?_
                  rintro e w6 ⟨rfl, hs6⟩
                  have s6 := HS.out.same0 hs6
                  have C2 := refs_any s6.mem 0
                  rw [hz.out.1] at C2
                  have C2 := Lib.hid C2
                  have HS6 := Lib.hid s6
                  clear hs6 s6 C1 HS
                  go_wp2_with fail
                  refine C2.out.mono ?_
                  rintro e w7 ⟨rfl, hs7⟩
                  have s7 := HS6.out.same0 hs7
                  have C3 := refs_any s7.mem 3
                  rw [hz.out.2] at C3
                  have C3 := Lib.hid C3
                  have HS7 := Lib.hid s7
                  clear hs7 s7 C2 HS6
                  go_wp2_with fail
                  refine C3.out.mono ?_
                  rintro e w8 ⟨rfl, hs8⟩
                  have s8 := HS7.out.same0 hs8
                  have hfin : Same (fun _ => False) w w8 := by
                    have h1 := HH.out.1
                    have h2 := h1.size
                    have h3 := HH.out.2.1
                    refine h1.trans' s8.same (fun b hb hlt => ?_)
                    rcases hb with hb | hb <;> omega
                  have HX := Lib.hid hfin
                  clear hs8 s8 C3 HS7 hfin
                  go_wp2
                  go_ret
                  exact ⟨rfl, HX.out⟩
      · obtain ⟨hst, h25⟩ := H5.out
        obtain ⟨rfl, hn1, hnf⟩ := hst.resolve_left (fun h => h0 h.1)
        have sA := same_alloc (W := w5) (.cells #[.int .i64 0, .int .i64 0, .int .i64 0, .int .i64 0, .slice none 0 0] 75)
        have CL := Lib.hid (left_any (hM5.same0 sA))
        have hz := HH.out.1
        have hfin : Same (fun _ => False) w w5 := by
          have := hz.size
          exact hz.trans' (h25.trans hs5) (fun b hb hlt => by have := HH.out.2.1; omega)
        have hfin := hfin.trans sA
        have HF := Lib.hid (And.intro hfin (show nfree M1.R M1.n = L0 by rw [hn1, hnf, HL0.out, taken_n]))
        clear hst h25 hn1 hnf hz sA hfin h0 hM5 hs5 H5 hx
        go_wp2_with fail
        refine CL.out.mono ?_
        rintro e w6 ⟨rfl, hs6⟩
        rw [HF.out.2]
        have HF2 := Lib.hid (HF.out.1.trans hs6)
        clear hs6 HF CL
        go_wp2
        go_ret
        exact ⟨rfl, HF2.out⟩
end Go.Proofs.Ytlbgnmcjdmdjpaa
