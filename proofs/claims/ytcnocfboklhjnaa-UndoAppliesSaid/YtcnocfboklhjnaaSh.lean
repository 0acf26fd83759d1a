/- undo: the law's 'shown'. No condition. -/
import Derived.Test.YtcnocfboklhjnaaSm
import Derived.Test.YtcnocfboklhjnaaRd
namespace Go.Proofs.Ytcnocfboklhjnaa
open Go.RowKit Go.Shelf
attribute [local go_sem] Oper.semAt_some

def ops0 : List Tri := [⟨0, -2, 2⟩, ⟨1, 1, 3⟩, ⟨2, 9, 0⟩]
def adj0 : List Tri := [⟨5, 0, 2⟩, ⟨5, 1, -1⟩]
theorem right_nil : Un.Right [] := ⟨by decide, fun a h => by simp at h, List.Pairwise.nil⟩
theorem right_adj0 : Un.Right adj0 := ⟨by decide, fun a h => by
  simp [adj0] at h
  rcases h with rfl | rfl <;> (unfold Un.okA; decide), by
  unfold adj0
  rw [List.pairwise_cons]
  exact ⟨fun a h => by simp at h; subst h; decide, List.pairwise_singleton _ _⟩⟩
theorem rec0 : recS [] 5 ops0 = (some adj0, 0) := by
  rw [recS, if_neg, if_neg]
  · rfl
  · rintro ⟨t, ht, hb⟩
    simp [ops0] at ht
    rcases ht with rfl | rfl | rfl <;> exact absurd hb (by decide)
  · rintro (h | h | h)
    · exact h right_nil
    · omega
    · exact absurd h (by decide)
theorem app0 : appS adj0 5 [1, 0, 3] = (some [3, 0, 3], 0) := by
  rw [appS, if_neg]
  · rfl
  · rintro (h | ⟨v, hv, hb⟩)
    · exact h right_adj0
    · simp at hv
      rcases hv with rfl | rfl | rfl <;> exact absurd hb (by decide)
theorem right_bad0 : ¬ Un.Right [⟨0, 0, 0⟩] := fun h => by
  have := (h.ok _ (List.mem_cons_self ..)).2.2.1
  exact this rfl
set_option maxHeartbeats 1600000 in
set_option maxRecDepth 16384 in
theorem shown_any (w : World) : Calls Try.prog 10 #[] w fun e w' => e = .returned (.bool true) ∧ Same (fun _ => False) w w' := by
  have hrc := record_any (w.alloc (.cells (flat3 ops0).toArray 35)) none (some ⟨w.heap.size, 0, none⟩) 0 3 [] ops0 5 (fun i t h => by simp at h) (lit_tri w 35 ops0 (by decide)) (by decide) (by decide) (fun x h => by cases h) (fun x h => by cases h; simp)
  rw [rec0] at hrc
  have hsA : Same (fun _ => False) w (w.alloc (.cells (flat3 ops0).toArray 35)) := same_alloc _
  go_enter Try.func10, Try.ntmps10
  go_wp2_with fail
  refine hrc.mono ?_
  rintro e w1 ⟨v, rfl, hown, hs1⟩
  obtain ⟨ao, cap, rfl, hao, hab, han, hac⟩ := own_tri hown
  have hs01 := hsA.trans hs1
  have H1 := Lib.hid (And.intro hs01 hao)
  have hz1 := hs01.size
  have hap := apply_any (w1.alloc (.cells (ints [1, 0, 3]).toArray 3)) ao (some ⟨w1.heap.size, 0, none⟩) cap 3 adj0 [1, 0, 3] 5 (hao.same0 (same_alloc _)) (lit_int w1 [1, 0, 3] (by decide)) (by decide) (by decide) (fun x hx => by have := (hab x hx).2; simp; omega) (fun x h => by cases h; simp) (.inr ⟨_, _, rfl⟩) (fun h => by cases h)
  rw [app0] at hap
  clear hrc hown hao hs1 hsA hs01
  go_wp2_with fail
  refine hap.mono ?_
  rintro e w2 ⟨v2, rfl, hown2, hs2⟩
  obtain ⟨bo, cap2, rfl, hbo, hbb, hbf, hbn, hbc⟩ := own_int hown2
  have hs02 := (H1.out.1.alloc (.cells (ints [1, 0, 3]).toArray 3)).trans hs2
  have hz2 := hs2.size
  simp only [World.size_alloc] at hz2
  have haw2 := (H1.out.2.same0 (same_alloc (.cells (ints [1, 0, 3]).toArray 3))).same0 hs2
  have hsm := same_any (w2.alloc (.cells (flat3 adj0).toArray 45)) ao (some ⟨w2.heap.size, 0, none⟩) cap 2 adj0 (haw2.same0 (same_alloc _)) (lit_tri w2 45 adj0 (by decide)) (by decide)
  have H2 := Lib.hid (And.intro hs02 hbo)
  clear hap hown2 hs2 haw2 hbo hs02
  go_wp2_with fail
  refine hsm.mono ?_
  rintro e w3 ⟨rfl, hs3⟩
  have H3 := Lib.hid (And.intro ((H2.out.1.alloc _).trans hs3) ((H2.out.2.same0 (same_alloc _)).same0 hs3))
  have hin := ints_any (w3.alloc (.cells (ints [3, 0, 3]).toArray 3)) bo (some ⟨w3.heap.size, 0, none⟩) cap2 3 [3, 0, 3] (H3.out.2.same0 (same_alloc _)) (lit_int w3 [3, 0, 3] (by decide)) (by decide)
  clear hsm hs3
  go_wp2_with fail
  refine hin.mono ?_
  rintro e w4 ⟨rfl, hs4⟩
  have H4 := Lib.hid ((H3.out.1.alloc _).trans hs4)
  have hri := right_any (w4.alloc (.cells (flat3 [⟨0, 0, 0⟩]).toArray 45)) (some ⟨w4.heap.size, 0, none⟩) 1 [⟨0, 0, 0⟩] (lit_tri w4 45 [⟨0, 0, 0⟩] (by decide)) (by decide) (fun x h => by cases h; simp)
  clear hin hs4
  go_wp2_with fail
  refine hri.mono ?_
  rintro e w5 ⟨b, hb, rfl, hs5⟩
  have hbf : b = false := by
    cases b
    · rfl
    · exact absurd (hb.1 rfl) right_bad0
  subst hbf
  have H5 := Lib.hid ((H4.out.alloc _).trans hs5)
  clear hri hs5 hb
  go_wp2
  go_ret
  exact ⟨rfl, H5.out⟩
end Go.Proofs.Ytcnocfboklhjnaa
