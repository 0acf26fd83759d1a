/- The walk of SpaceImages. Conditions: the arguments' form. -/
import Derived.Test.YtlbgnmcjdmdjpaaK5
namespace Go.Proofs.Ytlbgnmcjdmdjpaa
open Go.RowKit Go.Shelf
attribute [local go_sem] Oper.semAt_some
def stackS : ByteArray := ⟨#[115, 116, 97, 99, 107]⟩
/-- What an image's pages tell. -/
theorem img_law {M : Mm} {t d : ByteArray} {cu : Nat} (ht : t.size ≤ 200) (hd : d.size ≤ 200) (hO : M.One 0 cu) (hp : ∀ q : Int, M.pgc 0 q = lookI (imgItems t d) q) {g h i j : Int} {a b : ByteArray}
    (h1 : InR M 0 0 t.size g a) (h2 : InR M 0 (64 * spn 0 t.size : Int) d.size h b) (h3 : ChkR M 0 0 1 true i) (h4 : ChkR M 0 16256 5 true j) :
    (g = 0 ∧ a = t) ∧ (h = 0 ∧ b = d) ∧ (i = 30 ↔ 0 < t.size ∨ d.size = 0) ∧ (i = 0 ∨ i = 30) ∧ j = 0 := by
  obtain ⟨T, hT, hD⟩ := hO.ex
  have hu : M.isUsed 0 = true := hT.used
  have s1 : spn 0 t.size ≤ 4 := by unfold spn; split <;> omega
  have b2 : bits .and .i64 1 2 = 0 := by decide
  have b3 : bits .and .i64 3 2 ≠ 0 := by decide
  refine ⟨inr_pgc hu 0 t (by omega) (by omega) (fun x hx => ?_) h1, inr_pgc hu (64 * spn 0 t.size) d (by omega) (by omega) (fun x hx => ?_) (by simpa using h2), ?_⟩
  · obtain ⟨y, e1, e2, e3⟩ := lookI_text t d x hx
    refine ⟨1, pad y, by rw [Nat.zero_add, hp, e1], ?_⟩
    rw [Nat.zero_add, ← e3, List.getElem?_eq_getElem (by simpa using e2), pad_at e2 (List.getElem?_eq_getElem (by simpa using e2))]
  · obtain ⟨y, e1, e2, e3⟩ := lookI_data t d x hx
    refine ⟨3, pad y, by rw [hp, e1], ?_⟩
    rw [← e3, List.getElem?_eq_getElem (by simpa using e2), pad_at e2 (List.getElem?_eq_getElem (by simpa using e2))]
  · have hj : j = 0 := chk_pgc hu 16256 5 true (by omega) (by omega) (fun x hx => ⟨3, _, by rw [hp, show ((16256 + x : Nat) : Int) / 64 = 254 by omega, lookI_stack t d ht hd], fun _ => b3⟩) h4
    rcases Nat.eq_zero_or_pos t.size with z | z
    · rcases Nat.eq_zero_or_pos d.size with z' | z'
      · have hi : i = 30 := by
          refine chk_bad hu 0 1 (by omega) (by omega) ⟨0, by omega, .inl ?_⟩ h3
          rw [hp]
          have hl := leavesL_len _ t (Nat.le_refl _)
          have hk := leavesL_len _ d (Nat.le_refl _)
          have e1 : leavesL t = [] := leavesL_zero z
          have e2 : leavesL d = [] := leavesL_zero z'
          unfold imgItems
          rw [e1, e2]
          rfl
        exact ⟨by simp [hi, z'], .inr hi, hj⟩
      · have hi : i = 0 := by
          refine chk_pgc hu 0 1 true (by omega) (by omega) (fun x hx => ?_) h3
          obtain ⟨y, e1, _, _⟩ := lookI_data t d 0 z'
          have e : spn 0 t.size = 0 := by rw [z]; rfl
          rw [e] at e1
          obtain rfl : x = 0 := by omega
          refine ⟨3, pad y, ?_, fun _ => b3⟩
          rw [hp, ← e1]
        exact ⟨⟨fun e => by rw [hi] at e; exact absurd e (by decide), fun e => by exfalso; rcases e with e | e <;> omega⟩, .inl hi, hj⟩
    · have hi : i = 30 := by
        obtain ⟨y, e1, _, _⟩ := lookI_text t d 0 z
        refine chk_bad hu 0 1 (by omega) (by omega) ⟨0, by omega, .inr ⟨1, pad y, ?_, b2⟩⟩ h3
        rw [hp]; exact e1
      exact ⟨by simp [hi]; omega, .inr hi, hj⟩
theorem nfree_one {M : Mm} {r cu : Nat} (h : M.One r cu) : M.n ≤ nfree M.R M.n + cu + 16 := by
  obtain ⟨T, ht, _⟩ := h.ex
  have c := ht.cnt
  have := tcnt_le T 16
  omega
set_option maxHeartbeats 3200000 in
set_option maxRecDepth 8192 in
theorem images_walk (w : World) (text data s : ByteArray) (h1 : text.size ≤ 9223372036854775807) (h2 : data.size ≤ 9223372036854775807) (h3 : s.size ≤ 9223372036854775807) :
    Calls Try.prog 13 #[.string text, .string data, .string s] w fun e w' => e = .returned (.bool true) ∧ Same (fun _ => False) w w' := by
  go_enter Try.func13, Try.ntmps13
  go_wp2_with fail
  refine (shown4 _).mono ?_
  rintro e w1 ⟨rfl, hs1⟩
  go_wp2_with fail
  refine (new_any _ 60 (by omega) (by omega)).mono ?_
  rintro e w2 ⟨f, fb, rfl, hf, hfb, hM, hs2⟩
  have hs02 : Same (fun _ => False) w w2 := hs1.trans hs2
  have hsz1 := hs1.size
  have hwf : w.heap.size ≤ fb := by omega
  clear hs1 hs2 hsz1 hf hfb
  have HH := Lib.hid (And.intro hs02 (And.intro hwf hM))
  clear hs02 hwf hM
  go_wp2_with fail
  refine (image_any _ text data).mono ?_
  rintro e w3 ⟨rfl, hs3⟩
  obtain ⟨hs02, hwf, hM⟩ := HH.out
  have hM3 := hM.same0 hs3
  have hs03 := hs02.trans hs3
  have hx := exec_img hM3 text data
  obtain ⟨x0, hO, hMn, hpg⟩ := exec_new 60 (by omega) (by omega) (cut200 text) (cut200 data) (by rw [cut200_size]; omega) (by rw [cut200_size]; omega)
  have hil := (imgItems_lays (M := (Mm.mk 60 (fun _ => 0) (fun _ _ => 0)).alloc 0) (r := 0) (Mm.one_new 60 (by omega) (by omega)).2 (cut200 text) (cut200 data) (by rw [cut200_size]; omega) (by rw [cut200_size]; omega)).2
  generalize hMM : (Mm.mk 60 (fun _ => 0) (fun _ _ => 0)).exec (cut200 text) (cut200 data) = MM at hx x0 hO hMn hpg
  obtain ⟨M1, ya, yb⟩ := MM
  simp only at hx x0 hO hMn hpg
  cases x0
  have hsz3 : w.heap.size ≤ w3.heap.size := hs03.size
  have HI := Lib.hid (And.intro hs03 (And.intro hO (And.intro hMn (And.intro hpg (And.intro hil hwf)))))
  clear hs02 hwf hM hM3 hs03 hs3 HH hMM hO hMn hpg hil hsz3
  go_wp2_with fail
  refine hx.mono ?_
  rintro e w4 ⟨hM4, hs4, ⟨-, rfl⟩ | ⟨h, -⟩⟩
  rotate_left
  · exact absurd rfl h
  obtain ⟨hs03, hO, hMn, hpg, hil, hwf⟩ := HI.out
  have hl1 : (min (min (text.size : Int) 200).toNat text.size : Nat) = (cut200 text).size := by rw [cut200_size]; omega
  have hl2 : (min (min (data.size : Int) 200).toNat data.size : Nat) = (cut200 data).size := by rw [cut200_size]; omega
  have z1 : (cut200 text).size ≤ 200 := by rw [cut200_size]; omega
  have z2 : (cut200 data).size ≤ 200 := by rw [cut200_size]; omega
  have zs : spn 0 (cut200 text).size ≤ 4 := by unfold spn; split <;> omega
  have hfo : FramesOk M1 0 := by obtain ⟨T, hT, hD⟩ := hO.ex; exact hD.ok
  have hsz : w.heap.size ≤ w4.heap.size := by have := hs03.size; have := hs4.size; omega
  obtain ⟨x1, hx1⟩ : ∃ x, spn 0 (cut200 text).size = x := ⟨_, rfl⟩
  obtain ⟨x2, hx2⟩ : ∃ x, spn 0 (cut200 data).size = x := ⟨_, rfl⟩
  rw [hx1] at zs
  have hM5 := hM4.same0 (same_alloc (W := w4) (.cells #[.int .i64 0, .int .i64 x1, .int .i64 x2, .int .i64 0, .slice none 0 0] 75))
  obtain ⟨W5, hW5⟩ : ∃ W, W = w4.alloc (.cells #[.int .i64 0, .int .i64 (x1 : Int), .int .i64 (x2 : Int), .int .i64 0, .slice none 0 0] 75) := ⟨_, rfl⟩
  rw [← hW5] at hM5
  have k0 : W5.cell? ⟨w4.heap.size, 0, none⟩ = some (.int .i64 0) := by rw [hW5]; simp [go_sem]
  have k1 : W5.cell? ⟨w4.heap.size, 1, none⟩ = some (.int .i64 x1) := by rw [hW5]; simp [go_sem]
  have hs5 : Same (· = fb) w3 W5 := by rw [hW5]; exact hs4.trans ((same_alloc _).mono (fun _ _ h => h.elim))
  have hi0 : In64 0 := by constructor <;> omega
  have C1 := Lib.hid (in_c hM5 0 0 ((cut200 text).size : Int) hi0 (by constructor <;> omega) hfo)
  rw [hx1, hx2]
  have HJ := Lib.hid (And.intro hM5 (And.intro hs5 (And.intro k0 (And.intro k1 (And.intro hfo (And.intro hx1 hsz))))))
  have HZ := Lib.hid (And.intro z1 (And.intro z2 zs))
  have HL := Lib.hid (And.intro hl1 hl2)
  clear hx hM4 hs4 hM5 hs5 k0 k1 hfo hx1 hsz z1 z2 zs hl1 hl2 hx2 hs03 hO hMn hpg hil hwf hi0
  go_wp2_with fail
  rw [← hW5, HL.out.1]
  refine C1.out.mono ?_
  rintro e w6 ⟨g, a, rfl, r1, hs6⟩
  obtain ⟨hM5, hs5, k0, k1, hfo, hx1, hsz⟩ := HJ.out
  obtain ⟨z1, z2, zs⟩ := HZ.out
  have hM6 := hM5.same0 hs6
  have j0 := hs6.cell k0 (by simp)
  have j1 := hs6.cell k1 (by simp)
  have C2 := Lib.hid (in_c hM6 0 (64 * (x1 : Int)) ((cut200 data).size : Int) (by constructor <;> omega) (by constructor <;> omega) hfo)
  have R1 := Lib.hid r1
  have HK := Lib.hid (And.intro hM6 (hs5.trans (hs6.mono (T := (· = fb)) (fun _ _ h => h.elim))))
  have zs' : (x1 : Int) ≤ 4 := by omega
  have zs0 : 0 ≤ (x1 : Int) := by omega
  clear hM5 hs5 k0 k1 hfo hx1 hsz z1 z2 zs r1 hM6 hs6 C1 hW5
  go_wp2_with fail
  rw [HL.out.2]
  refine C2.out.mono ?_
  rintro e w7 ⟨h, b, rfl, r2, hs7⟩
  obtain ⟨hM6, hs36⟩ := HK.out
  have hM7 := hM6.same0 hs7
  have k0 := hs7.cell j0 (by simp)
  have C3 := Lib.hid (check_c hM7 0 0 1 true (by constructor <;> omega) (by constructor <;> omega))
  have R2 := Lib.hid r2
  have HM := Lib.hid (And.intro hM7 (hs36.trans (hs7.mono (T := (· = fb)) (fun _ _ h => h.elim))))
  clear hM6 hs36 hM7 r2 hs7 C2 j0 j1 HK zs' zs0
  go_wp2_with fail
  refine C3.out.mono ?_
  rintro e w8 ⟨i, rfl, r3, hs8⟩
  obtain ⟨hM7, hs37⟩ := HM.out
  have hM8 := hM7.same0 hs8
  have j0 := hs8.cell k0 (by simp)
  obtain ⟨-, hO, -⟩ := HI.out
  obtain ⟨T, hT, hD⟩ := hO.ex
  have C4 := out_c hM8 hT hD 16256 stackS (by constructor <;> omega) (by decide)
  rw [show ((0 : Nat) : Int) = 0 from rfl] at C4
  have C4 := Lib.hid C4
  have R3 := Lib.hid r3
  have HN := Lib.hid (And.intro hM8 (hs37.trans (hs8.mono (T := (· = fb)) (fun _ _ h => h.elim))))
  have HT := Lib.hid (And.intro hT hD)
  clear hM7 hs37 hM8 r3 hs8 C3 k0 HM hO hT hD
  go_wp2_with fail
  refine C4.out.mono ?_
  rintro e w9 ⟨j, M2, rfl, r4, hM9, r5, hs9⟩
  obtain ⟨hM8, hs38⟩ := HN.out
  obtain ⟨-, -, -, -, -, hx1, hsz⟩ := HJ.out
  obtain ⟨hs03, hO, hMn, hpg, hil, hwf⟩ := HI.out
  obtain ⟨z1, z2, zs⟩ := HZ.out
  have r2 := R2.out
  rw [← hx1] at r2
  obtain ⟨⟨rfl, ha⟩, ⟨rfl, hb⟩, hi, hi2, rfl⟩ := img_law z1 z2 hO hpg R1.out r2 R3.out r4
  obtain ⟨-, -, ho⟩ := r5.resolve_left (fun h => h.1 rfl)
  have hn2 : M2.n ≤ 256 := by rw [ho.tab.n, hMn]; decide
  have hroom : 29 ≤ nfree M2.R M2.n := by rw [ho.tab.n, ho.tab.R]; have := nfree_one hO; omega
  have hs09 := hs03.trans' (hs38.trans hs9) (fun b hb hlt => by omega)
  have hcut : (cut200 s).size ≤ 200 := by rw [cut200_size]; omega
  have hsS : cut200 s = s.extract 0 (min (s.size : Int) 200).toNat := rfl
  have hlS : (min (min (s.size : Int) 200).toNat s.size : Nat) = (cut200 s).size := by rw [cut200_size]; omega
  have ha' : a = text.extract 0 (min (text.size : Int) 200).toNat := ha
  have hb' : b = data.extract 0 (min (data.size : Int) 200).toNat := hb
  have hl1 := HL.out.1
  have hl2 := HL.out.2
  have HW := Lib.hid (And.intro hM9 (And.intro hs09 (And.intro hn2 (And.intro hroom hwf))))
  have HI := Lib.hid (And.intro hi hi2)
  have HS := Lib.hid (And.intro hcut (And.intro hsS hlS))
  clear hM8 hs38 hx1 hsz hs03 hO hMn hpg hil hwf z1 z2 zs r2 R1 R2 R3 r4 r5 ho hM9 hs9 hn2 hroom hs09 hcut hsS hlS ha hb hi hi2 hl1 hl2 j0 HN HJ HT HZ C4
  subst ha' hb'
  obtain ⟨hi, hi2⟩ := HI.out
  obtain ⟨hl1, hl2⟩ := HL.out
  rw [← hl1, ← hl2] at hi
  obtain ⟨X, hX⟩ : ∃ X : Nat, X = min (min (text.size : Int) 200).toNat text.size := ⟨_, rfl⟩
  obtain ⟨Y, hY⟩ : ∃ Y : Nat, Y = min (min (data.size : Int) 200).toNat data.size := ⟨_, rfl⟩
  rw [← hX, ← hY] at hi
  obtain ⟨B1, B2, f1, f1', f2, f3⟩ : ∃ B1 B2 : Bool, decide ((0 : Int) < ((min (min (text.size : Int) 200).toNat text.size : Nat) : Int)) = B1 ∧ decide (0 < min (min (text.size : Int) 200).toNat text.size) = B1 ∧
      (((min (min (data.size : Int) 200).toNat data.size : Nat) : Int) == 0) = B2 ∧ (i == 30) = (B1 || B2) := by
    refine ⟨decide (0 < X), decide (Y = 0), by rw [← hX]; simp, by rw [← hX], by rw [← hY]; by_cases e : Y = 0 <;> simp [e], ?_⟩
    rw [Bool.eq_iff_iff]
    simp only [beq_iff_eq, Bool.or_eq_true, decide_eq_true_eq]
    exact hi
  have G1 := Lib.hid f1
  have G1' := Lib.hid f1'
  have G2 := Lib.hid f2
  have G3 := Lib.hid f3
  clear hi hi2 HI hl1 hl2 HL hX hY f1 f1' f2 f3
  have HHW := HW
  by_cases hok : ∃ n1 n2, ImgOk (cut200 s) n1 n2
  · obtain ⟨n1, n2, hok⟩ := hok
    obtain ⟨hM9, hs09, hn2, hroom, hwf⟩ := HW.out
    obtain ⟨hcut, hsS, hlS⟩ := HS.out
    obtain ⟨b1, hb1, hn1⟩ := hok.i1
    obtain ⟨b2, hb2, hn2'⟩ := hok.i2
    have hw1 : b1.toNat < 256 := b1.toNat_lt
    have hw2 : b2.toNat < 256 := b2.toNat_lt
    have hx := exec_ok hM9 (cut200 s) n1 n2 (by omega) (by omega) hok
    have hsz := hok.sz
    have he := exec_room hn2 hroom ((cut200 s).extract 3 (3 + n1)) ((cut200 s).extract (3 + n1) (cut200 s).size) (by rw [ByteArray.size_extract]; omega) (by rw [ByteArray.size_extract]; omega)
    have x0 : ∀ w, (Instr.index 9 (.string (cut200 s)) (.int .i64 0)).run Try.prog w = .ok (.int .u8 ((88 : UInt8).toNat : Int)) w := index_fact _ 0 88 (by omega) hok.i0
    have x1 : ∀ w, (Instr.index 9 (.string (cut200 s)) (.int .i64 1)).run Try.prog w = .ok (.int .u8 (b1.toNat : Int)) w := index_fact _ 1 b1 (by omega) hb1
    have x2 : ∀ w, (Instr.index 9 (.string (cut200 s)) (.int .i64 2)).run Try.prog w = .ok (.int .u8 (b2.toNat : Int)) w := index_fact _ 2 b2 (by omega) hb2
    rw [hsS] at x0 x1 x2 hx
    have es : (((min (min (s.size : Int) 200).toNat s.size : Nat) : Int) == 3 + (b1.toNat : Int) + (b2.toNat : Int)) = true := by simp only [beq_iff_eq]; omega
    have el : decide ((3 : Int) ≤ ((min (min (s.size : Int) 200).toNat s.size : Nat) : Int)) = true := by simp only [decide_eq_true_eq]; omega
    have hgz : (3 : Int) ≤ ((min (min (s.size : Int) 200).toNat s.size : Nat) : Int) := by simpa using el
    have HE := Lib.hid (And.intro he hsS)
    have HX := Lib.hid hx
    clear hM9 hs09 hn2 hroom hwf hcut hsS hlS hb1 hb2 hn1 hn2' hx hsz he HW HS hok
    go_wp2_with fail
    refine HX.out.mono ?_
    rintro e w10 ⟨hM10, hs10, ⟨-, rfl⟩ | ⟨hh, -⟩⟩
    rotate_left
    · obtain ⟨he, hsS⟩ := HE.out
      rw [← hsS] at hh
      exact absurd he hh
    have HG := Lib.hid hs10
    clear HX hM10 hs10
    generalize (Mm.exec M2 _ _).2.1 = rr
    go_wp2_with fail
    go_quiet (fail)
    clear hgz x0 x1 x2 es el HE
    have f1 := G1.out
    have f1' := G1'.out
    have f2 := G2.out
    have f3 := G3.out
    clear G1 G1' G2 G3
    cases B1 <;> cases B2
    all_goals simp only [Bool.or_false, Bool.or_true] at f3
    all_goals
      go_wp2
      all_goals
        go_ret
        obtain ⟨_, hs09, _, _, hwf⟩ := HHW.out
        exact ⟨by simp [f1'], hs09.trans' (HG.out.trans (((same_alloc _).drewN _).mono (T := (· = fb)) (fun _ _ h => h.elim))) (fun b hb hlt => by omega)⟩
  · obtain ⟨hM9, hs09, hn2, hroom, hwf⟩ := HW.out
    obtain ⟨hcut, hsS, hlS⟩ := HS.out
    have hx := exec_bad hM9 (cut200 s) (by omega) (fun n1 n2 h => hok ⟨n1, n2, h⟩)
    by_cases h3 : (cut200 s).size < 3
    · have el : decide ((3 : Int) ≤ ((min (min (s.size : Int) 200).toNat s.size : Nat) : Int)) = false := by simp only [decide_eq_false_iff_not]; omega
      have hgz : ((min (min (s.size : Int) 200).toNat s.size : Nat) : Int) < 3 := by omega
      rw [hsS] at hx
      have HX := Lib.hid hx
      clear hM9 hs09 hn2 hroom hwf hcut hsS hlS hx HW HS hok h3
      go_wp2_with fail
      refine HX.out.mono ?_
      rintro e w10 ⟨rfl, hs10⟩
      have hs10 := hs10.mono (T := (· = fb)) (fun _ _ h => h.elim)
      have HG := Lib.hid hs10
      clear HX hs10
      go_wp2_with fail
      go_quiet (fail)
      clear hgz el
      have f1 := G1.out
      have f1' := G1'.out
      have f2 := G2.out
      have f3 := G3.out
      clear G1 G1' G2 G3
      cases B1 <;> cases B2
      all_goals simp only [Bool.or_false, Bool.or_true] at f3
      all_goals
        go_wp2
        all_goals
          go_ret
          obtain ⟨_, hs09, _, _, hwf⟩ := HHW.out
          exact ⟨by simp [f1'], hs09.trans' (HG.out.trans (((same_alloc _).drewN _).mono (T := (· = fb)) (fun _ _ h => h.elim))) (fun b hb hlt => by omega)⟩
    · have hl : 3 ≤ (cut200 s).data.toList.length := by have := Lib.size_eq (cut200 s); omega
      obtain ⟨b0, hb0⟩ : ∃ b, (cut200 s).data.toList[0]? = some b := ⟨_, List.getElem?_eq_getElem (by omega)⟩
      obtain ⟨b1, hb1⟩ : ∃ b, (cut200 s).data.toList[1]? = some b := ⟨_, List.getElem?_eq_getElem (by omega)⟩
      obtain ⟨b2, hb2⟩ : ∃ b, (cut200 s).data.toList[2]? = some b := ⟨_, List.getElem?_eq_getElem (by omega)⟩
      have x0 : ∀ w, (Instr.index 9 (.string (cut200 s)) (.int .i64 0)).run Try.prog w = .ok (.int .u8 (b0.toNat : Int)) w := index_fact _ 0 b0 (by omega) hb0
      have x1 : ∀ w, (Instr.index 9 (.string (cut200 s)) (.int .i64 1)).run Try.prog w = .ok (.int .u8 (b1.toNat : Int)) w := index_fact _ 1 b1 (by omega) hb1
      have x2 : ∀ w, (Instr.index 9 (.string (cut200 s)) (.int .i64 2)).run Try.prog w = .ok (.int .u8 (b2.toNat : Int)) w := index_fact _ 2 b2 (by omega) hb2
      have hw0 : b0.toNat < 256 := b0.toNat_lt
      have hw1 : b1.toNat < 256 := b1.toNat_lt
      have hw2 : b2.toNat < 256 := b2.toNat_lt
      have el : decide ((3 : Int) ≤ ((min (min (s.size : Int) 200).toNat s.size : Nat) : Int)) = true := by simp only [decide_eq_true_eq]; omega
      have hgz : (3 : Int) ≤ ((min (min (s.size : Int) 200).toNat s.size : Nat) : Int) := by simpa using el
      rw [hsS] at hx x0 x1 x2
      have HX := Lib.hid hx
      by_cases h88 : b0.toNat = 88
      · obtain rfl : b0 = 88 := UInt8.toNat_inj.1 h88
        have es : (((min (min (s.size : Int) 200).toNat s.size : Nat) : Int) == 3 + (b1.toNat : Int) + (b2.toNat : Int)) = false := by
          simp only [beq_eq_false_iff_ne]
          intro e
          exact hok ⟨b1.toNat, b2.toNat, hb0, ⟨b1, hb1, rfl⟩, ⟨b2, hb2, rfl⟩, by omega⟩
        clear hM9 hs09 hn2 hroom hwf hcut hsS hlS hx HW HS hok h3 h88 hb0 hb1 hb2 hl hw0
        go_wp2_with fail
        refine HX.out.mono ?_
        rintro e w10 ⟨rfl, hs10⟩
        have hs10 := hs10.mono (T := (· = fb)) (fun _ _ h => h.elim)
        have HG := Lib.hid hs10
        clear HX hs10
        go_wp2_with fail
        go_quiet (fail)
        clear hgz x0 x1 x2 es el
        have f1 := G1.out
        have f1' := G1'.out
        have f2 := G2.out
        have f3 := G3.out
        clear G1 G1' G2 G3
        cases B1 <;> cases B2
        all_goals simp only [Bool.or_false, Bool.or_true] at f3
        all_goals
          go_wp2
          all_goals
            go_ret
            obtain ⟨_, hs09, _, _, hwf⟩ := HHW.out
            exact ⟨by simp [f1'], hs09.trans' (HG.out.trans (((same_alloc _).drewN _).mono (T := (· = fb)) (fun _ _ h => h.elim))) (fun b hb hlt => by omega)⟩
      · have e88 : ((b0.toNat : Int) == 88) = false := by simp; omega
        clear hM9 hs09 hn2 hroom hwf hcut hsS hlS hx HW HS hok h3 h88 hb0 hb1 hb2 hl
        go_wp2_with fail
        refine HX.out.mono ?_
        rintro e w10 ⟨rfl, hs10⟩
        have hs10 := hs10.mono (T := (· = fb)) (fun _ _ h => h.elim)
        have HG := Lib.hid hs10
        clear HX hs10
        go_wp2_with fail
        go_quiet (fail)
        clear hgz x0 x1 x2 el e88
        have f1 := G1.out
        have f1' := G1'.out
        have f2 := G2.out
        have f3 := G3.out
        clear G1 G1' G2 G3
        cases B1 <;> cases B2
        all_goals simp only [Bool.or_false, Bool.or_true] at f3
        all_goals
          go_wp2
          all_goals
            go_ret
            obtain ⟨_, hs09, _, _, hwf⟩ := HHW.out
            exact ⟨by simp [f1'], hs09.trans' (HG.out.trans (((same_alloc _).drewN _).mono (T := (· = fb)) (fun _ _ h => h.elim))) (fun b hb hlt => by omega)⟩
end Go.Proofs.Ytlbgnmcjdmdjpaa
