/- copyio.In. Conditions: the memory's form; mapped pages have frames in use. -/
import Derived.Test.YtlbgnmcjdmdjpaaCpC
namespace Go.Proofs.Ytlbgnmcjdmdjpaa
open Go.RowKit Go.Shelf
attribute [local go_sem] Oper.semAt_some

def strs (xs : List ByteArray) : List Value := xs.map Value.string
set_option maxHeartbeats 3200000 in
set_option maxRecDepth 8192 in
theorem clo77 {W : World} {f fb : Nat} {M : Mm} (hM : MemAt W f fb M) (mb ob base : Nat) (hm : W.cell? ⟨mb, 0, none⟩ = some (.pointer (some ⟨f, 0, none⟩))) {v : Value} {xs : List ByteArray}
    (hv : W.cell? ⟨ob, 0, none⟩ = some v) (hz : W.frozen? ⟨ob, 0, none⟩ = false) (hrow : W.ownsRow base 9 1 v xs.length (strs xs)) (hbase : base ≤ W.heap.size) (hno : ¬ v.ownBlock = some ob)
    (pg fl : Int) (at_ k fr : Nat) (hat : at_ < 64) (hk : at_ + k ≤ 64) (hfr : fr < M.n) (hR : 0 < M.R fr) (hlen : xs.length ≤ 5000) :
    Calls Try.prog 77 #[.agg #[.int .i64 pg, .int .i64 at_, .int .i64 k], .int .i64 fr, .int .i64 fl, .pointer (some ⟨mb, 0, none⟩), .pointer (some ⟨ob, 0, none⟩)] W fun e W' => e = .returned (.int .i64 0) ∧
      ∃ v', W'.cell? ⟨ob, 0, none⟩ = some v' ∧ W'.frozen? ⟨ob, 0, none⟩ = false ∧ W'.ownsRow base 9 1 v' (xs ++ [M.str fr at_ k]).length (strs (xs ++ [M.str fr at_ k])) ∧
        Same (fun b => b = ob ∨ v.ownBlock = some b) W W' ∧ (∀ g, v'.ownBlock = some g → v.ownBlock = some g ∨ W.heap.size ≤ g) := by
  obtain ⟨is, his, hzs, hzs1, hzs2⟩ := info_parts info9
  have hlt := World.block_lt_of_cell? _ _ hm
  have hlt2 := World.block_lt_of_cell? _ _ hv
  simp only at hlt hlt2
  have HROW := Lib.hid hrow
  have hrd := read_ok (hM.same0 (same_alloc (.cells #[.int .i64 pg, .int .i64 at_, .int .i64 k] 140))) fr at_ k hfr hR hat hk
  have hst : strs (xs ++ [M.str fr at_ k]) = strs xs ++ [.string (M.str fr at_ k)] := by unfold strs; simp
  have hln : (xs ++ [M.str fr at_ k]).length = xs.length + 1 := by simp
  rw [hst, hln]
  obtain ⟨S, hS⟩ : ∃ S, S = M.str fr at_ k := ⟨_, rfl⟩
  rw [← hS] at hrd ⊢
  have HNO := Lib.hid hno
  clear hS hst hln hrow hM hno
  refine (callsIn_wide (n := 0)).1 ?_
  refine callsIn_of_wp Try.func77 rfl trivial ?_ rfl
  simp only [Try.ntmps77, List.size_toArray, List.length_cons, List.length_nil, Nat.reduceAdd, Nat.reduceSub, Array.replicate_succ, Array.replicate_zero, List.push_toArray, List.append_toArray, List.nil_append, List.cons_append]
  gi_wp2_with fail
  refine CallsIn.mono (callsIn_wide.2 hrd) ?_
  rintro e W2 ⟨rfl, hs2⟩
  have hsA : Same (fun _ => False) W W2 := (same_alloc _).trans hs2
  have v2 := hsA.cell hv (fun h => h)
  have z2 := hsA.unfrozen hv hz (fun h => h)
  have HROW2 := Lib.hid (ownsRow_same HROW.out hsA (by simp))
  have hz2 := hsA.size
  clear hs2 hrd
  gi_wp2_with (gi_at_builtin; refine stop_intro ?_)
  unfold Stop
  refine wpListIn_append_same rfl _ _ 120 rfl base 9 is (.string ByteArray.empty) 1 16 Try.underlying120 his hzs hzs1 hzs2 rfl (by decide) _ _ _ rfl (HROW2.out.alloc _) ⟨W2.heap.size, 0, none⟩ 1 1 [.string S] (by rfl) (by rfl) ?c1 ?c2 ?c3 ?c4 ?c5 ?_
  case c1 =>
    intro j u hu
    exact cells_new rfl hu
  case c2 => simp [Value.oneCell']
  case c3 => unfold maxLen; omega
  case c4 => omega
  case c5 => simp; omega
  intro v' W3 hown' hsame hfresh
  obtain ⟨g', cap', rfl⟩ := own_row_succ hown'
  have hsB : Same (fun b => v.ownBlock = some b) W2 W3 := ((same_alloc (.cells #[.string S] 9)).mono (fun _ _ h => h.elim)).trans hsame
  have v3 := hsB.cell v2 HNO.out
  have z3 := hsB.unfrozen v2 z2 HNO.out
  have HO := Lib.hid hown'
  have hg' : v.ownBlock = some g' ∨ W.heap.size ≤ g' := by
    rcases hfresh g' rfl with h | h
    · exact .inl h
    · right; simp at h; omega
  have HG := Lib.hid hg'
  have hg2 : g' ≠ ob := by
    rintro rfl
    rcases hg' with h | h
    · exact HNO.out h
    · omega
  clear hown' hsame hfresh hg'
  gi_wp2
  refine bodyPost_ret (results_tmp rfl _ _ _) rfl ⟨rfl, _, World.cell?_setCell_same _ _ _ v3, by simpa using z3, ?_, ?_, ?_⟩
  · exact ownsRow_same HO.out ((Same.refl (· = ob) _).setCell _ (.inr rfl)) (fun g hg e => by simp only [Value.ownBlock, Option.some.injEq] at hg; omega)
  · exact ((hsA.mono (T := fun b => b = ob ∨ v.ownBlock = some b) (fun _ _ h => h.elim)).trans (hsB.mono (fun b _ h => .inr h))).setCell _ (.inr (.inl rfl))
  · intro g hg
    simp only [Value.ownBlock, Option.some.injEq] at hg
    subst hg
    exact HG.out

/-- The byte at an address. -/
def Mm.vb (M : Mm) (root : Int) (i : Nat) : UInt8 := M.B (M.walk root ((i : Int) / 64)).1.toNat (i % 64)
def Mm.vs (M : Mm) (root : Int) (a n : Nat) : List UInt8 := (List.range n).map fun j => M.vb root (a + j)
def Mm.vstr (M : Mm) (root : Int) (a n : Nat) : ByteArray := ⟨(M.vs root a n).toArray⟩
theorem Mm.vs_len (M : Mm) (root : Int) (a n : Nat) : (M.vs root a n).length = n := by unfold Mm.vs; simp
theorem Mm.vs_add (M : Mm) (root : Int) (a x k : Nat) : M.vs root a (x + k) = M.vs root a x ++ M.vs root (a + x) k := by
  unfold Mm.vs
  rw [List.range_add, List.map_append, List.map_map]
  congr 1
  apply List.map_congr_left
  intro j _
  simp [Nat.add_assoc]
theorem Mm.vs_piece (M : Mm) (root : Int) (a k fr : Nat) (hk : a % 64 + k ≤ 64) (hw : (M.walk root ((a : Int) / 64)).1 = fr) : (M.str fr (a % 64) k).data.toList = M.vs root a k := by
  unfold Mm.str Mm.bytes Mm.vs Mm.vb
  apply List.map_congr_left
  intro j hj
  have hj' := List.mem_range.1 hj
  rw [show (((a + j : Nat) : Int) / 64) = (a : Int) / 64 by omega, hw, show (a + j) % 64 = a % 64 + j by omega]
  rfl
/-- Mapped pages have frames in use. -/
def FramesOk (M : Mm) (root : Int) : Prop := ∀ p : Int, (M.walk root p).2.2 = 0 → M.isUsed (M.walk root p).1 = true
/-- What In tells. -/
def InR (M : Mm) (root addr n er : Int) (s : ByteArray) : Prop := ChkR M root addr n false er ∧ ((er ≠ 0 ∧ s = ByteArray.empty) ∨ (er = 0 ∧ s = M.vstr root addr.toNat n.toNat))

theorem in_span {w : World} {f fb : Nat} {M : Mm} (hM : MemAt w f fb M) (root : Int) (hfo : FramesOk M root) (a0 n0 : Nat) (hn : n0 ≤ 4096) (hle : a0 + n0 ≤ 16384) (hok : ∀ i, a0 ≤ i → i < a0 + n0 → M.okB root false i) (mb ob : Nat)
    (hm : w.cell? ⟨mb, 0, none⟩ = some (.pointer (some ⟨f, 0, none⟩))) (ho : w.cell? ⟨ob, 0, none⟩ = some (.slice none 0 0)) (hz : w.frozen? ⟨ob, 0, none⟩ = false) (hd1 : ob ≠ mb) (hd2 : ob ≠ f) (hd3 : ob ≠ fb) :
    Calls Try.prog 76 #[.pointer (some ⟨f, 0, none⟩), .int .i64 root, .int .i64 a0, .int .i64 n0, .func (.func 77) #[] #[.pointer (some ⟨mb, 0, none⟩), .pointer (some ⟨ob, 0, none⟩)]] w fun e W =>
      e = .returned (.int .i64 0) ∧ ∃ v xs, W.cell? ⟨ob, 0, none⟩ = some v ∧ W.ownsRow w.heap.size 9 1 v xs.length (strs xs) ∧ xs.length ≤ n0 ∧ (xs.map (·.data.toList)).flatten = M.vs root a0 n0 ∧ Same (· = ob) w W := by
  have hlt := hM.lt
  have hmb := World.block_lt_of_cell? _ _ hm
  have hob := World.block_lt_of_cell? _ _ ho
  simp only at hmb hob
  refine (each_any w f fb root a0 n0 M (by omega) 77 #[.pointer (some ⟨mb, 0, none⟩), .pointer (some ⟨ob, 0, none⟩)] (enters_of Try.func77 (by kernel_rfl) rfl)
    (fun hi a n M' W => M' = M ∧ MemAt W f fb M ∧ a0 ≤ a ∧ a + n = a0 + n0 ∧ W.cell? ⟨mb, 0, none⟩ = some (.pointer (some ⟨f, 0, none⟩)) ∧
      (∃ v xs, W.cell? ⟨ob, 0, none⟩ = some v ∧ W.frozen? ⟨ob, 0, none⟩ = false ∧ W.ownsRow w.heap.size 9 1 v xs.length (strs xs) ∧ (∀ g, v.ownBlock = some g → hi ≤ g) ∧ xs.length ≤ a - a0 ∧ (xs.map (·.data.toList)).flatten = M.vs root a0 (a - a0)) ∧
      Same (· = ob) w W ∧ w.heap.size ≤ hi)
    (fun hi er W => False) ?_ ?_ ?_ ?_ ?_ ?_).mono ?_
  · rintro hi a n M' W ⟨rfl, h1, _⟩
    exact h1
  · rintro hi a n M' W W' ⟨rfl, h1, h2, h3, h4, ⟨v, xs, h5, h6, h7, h8, h9, h10⟩, h11, h12⟩ hs
    exact ⟨rfl, h1.same hs (by omega) (by omega), h2, h3, hs.cell h4 (by simp; omega), ⟨v, xs, hs.cell h5 (by simp; omega), hs.unfrozen h5 h6 (by simp; omega), ownsRow_same h7 hs (fun g hg h => by have := h8 g hg; omega), h8, h9, h10⟩,
      h11.trans' hs (fun k hk hkw => by omega), h12⟩
  · rintro hi er W W' h _
    exact h
  · rintro hi a n M' W hn1 ⟨rfl, h1, h2, h3, _⟩ hw
    exact hw (hok a h2 (by omega)).1
  · rintro hi a n M' W0 W hn1 hle2 ⟨rfl, h1, h2, h3, h4, ⟨v, xs, h5, h6, h7, h8, h9, h10⟩, h11, h12⟩ hhi hs hw
    obtain ⟨k1, k2, k3⟩ := pk_pos (a := a) hn1
    have hu := hfo ((a : Int) / 64) hw
    obtain ⟨fr, hfr, hfr2, hR⟩ := Mm.used_iff hu
    have h5' := hs.cell h5 (by simp; omega)
    have h6' := hs.unfrozen h5 h6 (by simp; omega)
    have h7' := ownsRow_same h7 hs (fun g hg h => by have := h8 g hg; omega)
    have hz0 := h11.size
    have hz1 := hs.size
    rw [hfr]
    rw [show ((a : Int) % 64) = ((a % 64 : Nat) : Int) by omega]
    refine (clo77 (h1.same hs (by omega) (by omega)) mb ob w.heap.size (hs.cell h4 (by simp; omega)) h5' h6' h7' (by omega) (fun h => by have := h8 ob h; omega) _ _ (a % 64) (pk a n) fr (by omega) k3 hfr2 hR (by omega)).mono ?_
    rintro e W' ⟨rfl, v', g1, g2, g3, g4, g5⟩
    have hg8 : ∀ g, v.ownBlock = some g → hi ≤ g ∧ g < W0.heap.size := fun g hg => ⟨h8 g hg, (ownsRow_shape h7 hg).2.1⟩
    refine ⟨.inl ⟨rfl, M', rfl, (h1.same hs (by omega) (by omega)).same g4 ?_ ?_, by omega, by omega, g4.cell (hs.cell h4 (by simp; omega)) ?_, ⟨v', xs ++ [M'.str fr (a % 64) (pk a n)], g1, g2, g3, ?_, ?_, ?_⟩, ?_, h12⟩, g4.mono ?_⟩
    · rintro (h | h)
      · omega
      · have := hg8 f h; omega
    · rintro (h | h)
      · omega
      · have := hg8 fb h; omega
    · rintro (h | h)
      · simp only at h; omega
      · have := hg8 mb h; omega
    · intro g hg
      rcases g5 g hg with h | h
      · exact h8 g h
      · omega
    · rw [List.length_append]; simp; omega
    · rw [show a + pk a n - a0 = (a - a0) + pk a n by omega, Mm.vs_add, List.map_append, List.flatten_append, h10, show a0 + (a - a0) = a by omega]
      simp only [List.map_cons, List.map_nil, List.flatten_cons, List.flatten_nil, List.append_nil]
      rw [Mm.vs_piece M' root a (pk a n) fr k3 hfr]
    · exact (h11.trans' hs (fun k hk hkw => by omega)).trans' g4 (fun k hk hkw => by
        rcases hk with h | h
        · exact h
        · have := hg8 k h; omega)
    · rintro b hb (h | h)
      · omega
      · have := hg8 b h; omega
  · intro W1 hs
    exact ⟨rfl, hM.same0 hs, Nat.le_refl _, rfl, hs.cell hm (by simp), ⟨_, [], hs.cell ho (by simp), hs.unfrozen ho hz (by simp), World.ownsRow_nil _ _ _ _, by simp [Value.ownBlock], by simp, by simp [Mm.vs]⟩, hs.mono (fun _ _ h => h.elim), hs.size⟩
  · rintro e W (⟨rfl, hi, a, M', rfl, h1, h2, h3, h4, ⟨v, xs, h5, h6, h7, h8, h9, h10⟩, h11, h12⟩ | ⟨er, hi, her, rfl, h⟩)
    · have : a - a0 = n0 := by omega
      rw [this] at h9 h10
      exact ⟨rfl, v, xs, h5, h7, h9, h10, h11⟩
    · exact h.elim
end Go.Proofs.Ytlbgnmcjdmdjpaa
