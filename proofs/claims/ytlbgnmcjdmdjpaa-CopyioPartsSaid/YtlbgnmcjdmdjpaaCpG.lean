/- copyio.Out. Conditions: the memory's form; mapped pages have frames in use, each its own, and none is the root's or a table's. -/
import Derived.Test.YtlbgnmcjdmdjpaaCpF
namespace Go.Proofs.Ytlbgnmcjdmdjpaa
open Go.RowKit Go.Shelf
attribute [local go_sem] Oper.semAt_some

theorem ext_get (A : ByteArray) (i j x : Nat) (hj : j ≤ A.size) : (A.extract i j).data.toList[x]? = if x < j - i then A.data.toList[i + x]? else none := by
  rw [ByteArray.data_extract, Array.toList_extract, List.extract_eq_take_drop, List.getElem?_take]
  split
  · rw [List.getElem?_drop]
  · rfl
theorem ext_ext (s : ByteArray) (i k : Nat) (h : i + k ≤ s.size) : (s.extract i s.size).extract 0 k = s.extract i (i + k) ∧ (s.extract i s.size).extract k (s.extract i s.size).size = s.extract (i + k) s.size := by
  have hz : (s.extract i s.size).size = s.size - i := by rw [ByteArray.size_extract]; omega
  constructor
  · apply bytes_ext
    intro j
    rw [ext_get (s.extract i s.size) 0 k j (by omega), ext_get s i (i + k) j (by omega)]
    by_cases hj : j < k
    · rw [if_pos (by omega), if_pos (by omega), ext_get s i s.size _ (by omega), if_pos (by omega)]
      rw [Nat.zero_add]
    · rw [if_neg (by omega), if_neg (by omega)]
  · apply bytes_ext
    intro j
    rw [ext_get (s.extract i s.size) k (s.extract i s.size).size j (by omega), ext_get s (i + k) s.size j (by omega), hz]
    by_cases hj : j < s.size - i - k
    · rw [if_pos (by omega), if_pos (by omega), ext_get s i s.size _ (by omega), if_pos (by omega), Nat.add_assoc]
    · rw [if_neg (by omega), if_neg (by omega)]
theorem ext_all (s : ByteArray) : s.extract 0 s.size = s := by
  apply bytes_ext
  intro j
  rw [ext_get _ _ _ _ (by omega)]
  by_cases hj : j < s.size - 0
  · rw [if_pos hj, Nat.zero_add]
  · rw [if_neg hj, List.getElem?_eq_none]
    rw [Array.length_toList]
    show s.size ≤ j
    omega

theorem out_span {w : World} {f fb : Nat} {M : Mm} {r : Nat} {T : Nat → Option Nat} {cu : Nat} (hM : MemAt w f fb M) (ht : M.Tree r T cu) (hd : M.Data r T) (a0 : Nat) (s : ByteArray) (hle : a0 + s.size ≤ 16384) (hok : ∀ i, a0 ≤ i → i < a0 + s.size → M.okB r true i) (mb sb : Nat)
    (hm : w.cell? ⟨mb, 0, none⟩ = some (.pointer (some ⟨f, 0, none⟩))) (ho : w.cell? ⟨sb, 0, none⟩ = some (.string s)) (hz : w.frozen? ⟨sb, 0, none⟩ = false) (hd1 : sb ≠ mb) (hd2 : sb ≠ f) (hd3 : sb ≠ fb) (hd4 : mb ≠ fb) :
    Calls Try.prog 76 #[.pointer (some ⟨f, 0, none⟩), .int .i64 r, .int .i64 a0, .int .i64 s.size, .func (.func 79) #[] #[.pointer (some ⟨mb, 0, none⟩), .pointer (some ⟨sb, 0, none⟩)]] w fun e W =>
      e = .returned (.int .i64 0) ∧ ∃ M', MemAt W f fb M' ∧ OutR M M' r T a0 (a0 + s.size) s ∧ Same (fun b => b = fb ∨ b = sb) w W := by
  have hlt := hM.lt
  have hmb := World.block_lt_of_cell? _ _ hm
  have hob := World.block_lt_of_cell? _ _ ho
  simp only at hmb hob
  refine (each_any w f fb r a0 s.size M (by omega) 79 #[.pointer (some ⟨mb, 0, none⟩), .pointer (some ⟨sb, 0, none⟩)] (enters_of Try.func79 (by kernel_rfl) rfl)
    (fun hi a n M' W => MemAt W f fb M' ∧ OutR M M' r T a0 a s ∧ a0 ≤ a ∧ a + n = a0 + s.size ∧ W.cell? ⟨mb, 0, none⟩ = some (.pointer (some ⟨f, 0, none⟩)) ∧ W.cell? ⟨sb, 0, none⟩ = some (.string (s.extract (a - a0) s.size)) ∧ W.frozen? ⟨sb, 0, none⟩ = false ∧
      Same (fun b => b = fb ∨ b = sb) w W)
    (fun hi er W => False) ?_ ?_ ?_ ?_ ?_ ?_).mono ?_
  · rintro hi a n M' W ⟨h1, _⟩
    exact h1
  · rintro hi a n M' W W' ⟨h1, h2, h3, h4, h5, h6, h7, h8⟩ hs
    exact ⟨h1.same hs (by omega) (by omega), h2, h3, h4, hs.cell h5 (by simp; omega), hs.cell h6 (by simp; omega), hs.unfrozen h6 h7 (by simp; omega), h8.trans' hs (fun k hk hkw => by omega)⟩
  · rintro hi er W W' h _
    exact h
  · rintro hi a n M' W hn1 ⟨h1, h2, h3, h4, _⟩ hw
    rw [h2.tab.walk ht] at hw
    exact hw (hok a h3 (by omega)).1
  · rintro hi a n M' W0 W hn1 hle2 ⟨h1, h2, h3, h4, h5, h6, h7, h8⟩ hhi hs hw
    obtain ⟨k1, k2, k3⟩ := pk_pos (a := a) hn1
    rw [h2.tab.walk ht] at hw ⊢
    obtain ⟨fr, hfr, hfr2, hR, hfr3, hfr4⟩ := hd.fr _ hw
    have hz0 := h8.size
    rw [hfr]
    rw [show ((a : Int) % 64) = ((a % 64 : Nat) : Int) by omega]
    have hx := ext_ext s (a - a0) (pk a n) (by omega)
    have hxz : (s.extract (a - a0) s.size).size = s.size - (a - a0) := by rw [ByteArray.size_extract]; omega
    refine (clo79 (h1.same hs (by omega) (by omega)) mb sb (hs.cell h5 (by simp; omega)) (hs.cell h6 (by simp; omega)) (hs.unfrozen h6 h7 (by simp; omega)) ⟨hd3, hd2⟩ _ _ (a % 64) (pk a n) fr (by omega) k3 (by omega) (by rw [h2.tab.n]; exact hfr2) (by rw [h2.tab.R]; exact hR)).mono ?_
    rintro e W' ⟨rfl, g1, g2, g3, g4⟩
    rw [hx.1] at g1
    rw [hx.2] at g2
    have hst := h2.step ht hd h3 k3 k1 (by omega) hw hfr
    refine ⟨.inl ⟨rfl, _, g1, hst, by omega, by omega, g4.cell (hs.cell h5 (by simp; omega)) (by simp; omega), ?_, g3, (h8.trans' hs (fun k hk hkw => by omega)).trans g4⟩, g4.mono (fun b hb h => by omega)⟩
    rw [g2, show a + pk a n - a0 = a - a0 + pk a n by omega]
  · intro W1 hs
    refine ⟨hM.same0 hs, OutR.zero a0 s, Nat.le_refl _, rfl, hs.cell hm (by simp), ?_, hs.unfrozen ho hz (by simp), hs.mono (fun _ _ h => h.elim)⟩
    rw [Nat.sub_self, ext_all]
    exact hs.cell ho (by simp)
  · rintro e W (⟨rfl, hi, a, M', h1, h2, h3, h4, h5, h6, h7, h8⟩ | ⟨er, hi, her, rfl, h⟩)
    · have : a = a0 + s.size := by omega
      subst this
      exact ⟨rfl, M', h1, h2, h8⟩
    · exact h.elim

theorem out_nil (w : World) (root addr : Int) (s : ByteArray) : Calls Try.prog 43 #[.pointer none, .int .i64 root, .int .i64 addr, .string s] w fun e w' => e = .returned (.int .i64 1) ∧ Same (fun _ => False) w w' := by
  go_enter Try.func43, Try.ntmps43
  go_wp2_with fail
  refine (check_nil_c _ root addr s.size true).mono ?_
  rintro e w1 ⟨rfl, hs1⟩
  go_wp2
  go_ret
  exact ⟨rfl, ((same_alloc _).alloc _).trans hs1⟩
theorem out_bad {w : World} {f fb : Nat} {M : Mm} (hM : MemAt w f fb M) (root addr : Int) (s : ByteArray) (ha : In64 addr) (hs : s.size ≤ 9223372036854775807) (hu : M.isUsed root = false) :
    Calls Try.prog 43 #[.pointer (some ⟨f, 0, none⟩), .int .i64 root, .int .i64 addr, .string s] w fun e w' => e = .returned (.int .i64 10) ∧ Same (fun _ => False) w w' := by
  have hck := check_c (hM.same0 ((same_alloc (.cells #[.pointer (some ⟨f, 0, none⟩)] 24)).alloc (.cells #[.string s] 9))) root addr s.size true ha (by unfold In64; omega)
  have HU := Lib.hid hu
  clear hM hu
  go_enter Try.func43, Try.ntmps43
  go_wp2_with fail
  refine hck.mono ?_
  rintro e w1 ⟨er, rfl, hcr, hs1⟩
  have he : er = 10 := by
    have hu := HU.out
    rcases hcr with ⟨_, h⟩ | ⟨h, _⟩ | ⟨h, _⟩ | ⟨h, _⟩
    · exact h
    all_goals (rw [hu] at h; cases h)
  subst he
  clear hcr
  go_wp2
  go_ret
  exact ⟨rfl, ((same_alloc _).alloc _).trans hs1⟩

set_option maxHeartbeats 3200000 in
set_option maxRecDepth 8192 in
theorem out_c {w : World} {f fb : Nat} {M : Mm} {r : Nat} {T : Nat → Option Nat} {cu : Nat} (hM : MemAt w f fb M) (ht : M.Tree r T cu) (hd : M.Data r T) (addr : Int) (s : ByteArray) (ha : In64 addr) (hs : s.size ≤ 9223372036854775807) :
    Calls Try.prog 43 #[.pointer (some ⟨f, 0, none⟩), .int .i64 r, .int .i64 addr, .string s] w fun e w' => ∃ er M', e = .returned (.int .i64 er) ∧ ChkR M r addr s.size true er ∧ MemAt w' f fb M' ∧
      ((er ≠ 0 ∧ M' = M) ∨ (er = 0 ∧ 0 ≤ addr ∧ OutR M M' r T addr.toNat (addr.toNat + s.size) s)) ∧ Same (· = fb) w w' := by
  have hlt := hM.lt
  have hsA : Same (fun _ => False) w ((w.alloc (.cells #[.pointer (some ⟨f, 0, none⟩)] 24)).alloc (.cells #[.string s] 9)) := (same_alloc _).alloc _
  have hck := check_c (hM.same0 hsA) r addr s.size true ha (by unfold In64; omega)
  have H := Lib.hid hM
  have HT := Lib.hid ht
  have HD := Lib.hid hd
  clear hM ht hd
  go_enter Try.func43, Try.ntmps43
  go_wp2_with fail
  refine hck.mono ?_
  rintro e w1 ⟨er, rfl, hcr, hs1⟩
  have HCR := Lib.hid hcr
  have b0 := hs1.cell (a := ⟨w.heap.size, 0, none⟩) (v := .pointer (some ⟨f, 0, none⟩)) (by simp) (by simp)
  have b1 := hs1.cell (a := ⟨w.heap.size + 1, 0, none⟩) (v := .string s) (by simp [go_sem]) (by simp)
  have b2 := hs1.unfrozen (a := ⟨w.heap.size + 1, 0, none⟩) (v := .string s) (by simp [go_sem]) (by simp [go_sem]) (by simp)
  have hsw : Same (fun _ => False) w w1 := hsA.trans hs1
  clear hck hs1
  by_cases hz : er = 0
  · subst hz
    have hok : ∃ a : Nat, addr = a ∧ a + s.size ≤ 16384 ∧ ∀ i, a ≤ i → i < a + s.size → M.okB r true i := by
      rcases hcr with ⟨_, h⟩ | ⟨_, _, h⟩ | ⟨_, _, _, _, h⟩ | ⟨_, a, k, h1, h2, h3, h4, ⟨_, h5⟩ | ⟨h5, _⟩⟩
      · omega
      · omega
      · omega
      · obtain rfl : s.size = k := by omega
        exact ⟨a, h1, h4, h5⟩
      · omega
    obtain ⟨a, rfl, hle, hok⟩ := hok
    have hsp := out_span (H.out.same0 hsw) HT.out HD.out a s hle hok w.heap.size (w.heap.size + 1) b0 b1 b2 (by omega) (by omega) (by omega) (by omega)
    have HSP := Lib.hid hsp
    clear hcr hok hsp
    go_wp2_with fail
    refine HSP.out.mono ?_
    rintro e w2 ⟨rfl, M', h1, h2, h3⟩
    have HM2 := Lib.hid h1
    have HO := Lib.hid h2
    have hs3 : Same (· = fb) w w2 := (hsw.mono (T := (· = fb)) (fun _ _ h => h.elim)).trans' h3 (fun b hb hbw => by omega)
    clear h1 h2 h3
    go_wp2
    go_ret
    exact ⟨0, M', rfl, HCR.out, HM2.out, .inr ⟨rfl, by omega, by rw [Int.toNat_natCast]; exact HO.out⟩, hs3⟩
  · have hb : (er != 0) = true := by simpa using hz
    have HZ := Lib.hid hz
    clear hz hcr
    go_wp2
    go_ret
    exact ⟨er, M, rfl, HCR.out, H.out.same0 hsw, .inl ⟨HZ.out, rfl⟩, hsw.mono (fun _ _ h => h.elim)⟩
end Go.Proofs.Ytlbgnmcjdmdjpaa
