/- copyio.In and Out. Conditions: the memory's form; mapped pages have frames in use. -/
import Derived.Test.YtlbgnmcjdmdjpaaCpD
import Derived.StillTailTactics
namespace Go.Proofs.Ytlbgnmcjdmdjpaa
open Go.RowKit Go.Shelf
attribute [local go_sem] Oper.semAt_some

theorem in_nil (w : World) (root addr n : Int) : Calls Try.prog 42 #[.pointer none, .int .i64 root, .int .i64 addr, .int .i64 n] w fun e w' => e = .returned (.tuple #[.string ByteArray.empty, .int .i64 1]) ∧ Same (fun _ => False) w w' := by
  go_enter Try.func42, Try.ntmps42
  go_wp2_with fail
  refine (check_nil_c _ root addr n false).mono ?_
  rintro e w1 ⟨rfl, hs1⟩
  go_wp2
  go_ret2
  exact ⟨rfl, (same_alloc _).trans hs1⟩

set_option maxHeartbeats 3200000 in
set_option maxRecDepth 8192 in
theorem in_c {w : World} {f fb : Nat} {M : Mm} (hM : MemAt w f fb M) (root addr n : Int) (ha : In64 addr) (hn : In64 n) (hfo : FramesOk M root) :
    Calls Try.prog 42 #[.pointer (some ⟨f, 0, none⟩), .int .i64 root, .int .i64 addr, .int .i64 n] w fun e w' => ∃ er s, e = .returned (.tuple #[.string s, .int .i64 er]) ∧ InR M root addr n er s ∧ Same (fun _ => False) w w' := by
  have hlt := hM.lt
  have HFO := Lib.hid hfo
  have hck := check_c (hM.same0 (same_alloc (.cells #[.pointer (some ⟨f, 0, none⟩)] 24))) root addr n false ha hn
  have H := Lib.hid hM
  clear hfo hM
  go_enter Try.func42, Try.ntmps42
  go_wp2_with fail
  refine hck.mono ?_
  rintro e w1 ⟨er, rfl, hcr, hs1⟩
  have HCR := Lib.hid hcr
  have b0 := hs1.cell (a := ⟨w.heap.size, 0, none⟩) (v := .pointer (some ⟨f, 0, none⟩)) (by simp) (by simp)
  have hsw : Same (fun _ => False) w w1 := (same_alloc _).trans hs1
  have hw1 := World.block_lt_of_cell? _ _ b0
  simp only at hw1
  clear hck hs1
  by_cases hz : er = 0
  · subst hz
    have hok : ∃ a k : Nat, addr = a ∧ n = k ∧ k ≤ 4096 ∧ a + k ≤ 16384 ∧ ∀ i, a ≤ i → i < a + k → M.okB root false i := by
      rcases hcr with ⟨_, h⟩ | ⟨_, _, h⟩ | ⟨_, _, _, _, h⟩ | ⟨_, a, k, h1, h2, h3, h4, ⟨_, h5⟩ | ⟨h5, _⟩⟩
      · omega
      · omega
      · omega
      · exact ⟨a, k, h1, h2, h3, h4, h5⟩
      · omega
    obtain ⟨a, k, rfl, rfl, hk, hle, hok⟩ := hok
    have HOK := Lib.hid hok
    have hsA : Same (fun _ => False) w1 (w1.alloc (.cells #[.slice none 0 0] 120)) := same_alloc _
    have hsp := in_span ((H.out.same0 hsw).same0 hsA) root HFO.out a k hk hle HOK.out w.heap.size w1.heap.size (hsA.cell b0 (by simp)) (by simp) (by simp) (by omega) (by omega) (by omega)
    have HSP := Lib.hid hsp
    clear hcr hok hsp
    go_wp2_with fail
    refine HSP.out.mono ?_
    rintro e w2 ⟨rfl, v, xs, h1, h2, h3, h4, h5⟩
    have hxl : ((xs.map (·.data.toList)).flatten).length ≤ 1000000 := by rw [h4, Mm.vs_len]; omega
    have hv : (v = .slice none 0 0 ∧ xs = []) ∨ ∃ g cap, v = .slice (some ⟨g, 0, none⟩) xs.length cap ∧ xs.length ≤ cap ∧ g < w2.heap.size ∧ ∀ (j : Nat) x, xs[j]? = some x → w2.cell? ⟨g, j, none⟩ = some (.string x) := by
      have hrow := h2
      rcases h2.2 with ⟨rfl, h0⟩ | ⟨g, cap, cur, rfl, hb, hg, hc, _⟩
      · exact .inl ⟨rfl, List.eq_nil_of_length_eq_zero h0⟩
      · refine .inr ⟨g, cap, rfl, hc, (Array.getElem?_eq_some_iff.1 hg).1, fun j x hx => ?_⟩
        have := hrow.cells (g := g) rfl j (.string x) (by unfold strs; rw [List.getElem?_map, hx]; rfl)
        have e : (⟨g, 0, none⟩ : Addr).add j = ⟨g, j, none⟩ := by unfold Addr.add; by_cases h : j = 0 <;> simp [h]
        rwa [e] at this
    have hcat : cat xs = M.vstr root a k := by unfold cat Mm.vstr; rw [h4]
    have hj := joined_any (w := w2) hv (by omega) hxl
    rw [hcat] at hj
    have HJ := Lib.hid hj
    have hs3 : Same (fun _ => False) w w2 := hsw.trans' ((hsA.mono (T := (· = w1.heap.size)) (fun _ _ h => h.elim)).trans h5) (fun b hb hbw => by omega)
    clear h2 h4 h5 hv hj hcat hxl hsA
    go_wp2_with fail
    refine HJ.out.mono ?_
    rintro e w3 ⟨rfl, hs4⟩
    go_wp2
    go_ret2
    exact ⟨0, _, rfl, ⟨HCR.out, .inr ⟨rfl, rfl⟩⟩, hs3.trans hs4⟩
  · have hb : (er != 0) = true := by simpa using hz
    have HZ := Lib.hid hz
    clear hz hcr
    go_wp2
    go_ret2
    exact ⟨er, _, rfl, ⟨HCR.out, .inl ⟨HZ.out, rfl⟩⟩, hsw⟩
end Go.Proofs.Ytlbgnmcjdmdjpaa
