/- undo: the walk of UndoZero. Condition: the arguments' form. -/
import Derived.Test.YtcnocfboklhjnaaSh
import Derived.Test.YtcnocfboklhjnaaCt
import Derived.Test.YtcnocfboklhjnaaAr
namespace Go.Proofs.Ytcnocfboklhjnaa
open Go.RowKit Go.Shelf
attribute [local go_sem] Oper.semAt_some

def ops2 (num delta : Int) : List Tri := [⟨num, delta, 2⟩, ⟨num, -delta, 2⟩]
theorem zero_law {L : List Tri} {id num delta : Int} (hR : Un.Right L) (hid : 0 ≤ id) (hn : 0 ≤ num) (hd : -32767 ≤ delta ∧ delta ≤ 32767) : recS L id (ops2 num delta) = (none, 132) ∨ recS L id (ops2 num delta) = (some L, 0) := by
  have hop : (ops2 num delta).map opOf = [⟨num, delta, true⟩, ⟨num, -delta, true⟩] := by
    have h2 : (bits .and .i64 2 2 == 0) = false := by kernel_rfl
    simp only [ops2, List.map_cons, List.map_nil, opOf, h2, Bool.not_false]
  rw [recS, if_neg, if_neg, hop]
  · rcases Un.rec_zero ⟨hR.ok, hR.asc⟩ hid hn (id := id) (num := num) (delta := delta) with h | h
    · left; rw [h]
    · right; rw [h]; have := hR.len; simp only; rw [if_neg (by omega)]
  · rintro ⟨t, ht, hb⟩
    unfold badOp okS at hb
    simp [ops2] at ht
    rcases ht with rfl | rfl <;> (simp at hb; omega)
  · rintro (h | h | h)
    · exact h hR
    · omega
    · exact absurd h (by simp [ops2])
theorem zero_bad {L ops : List Tri} {id : Int} (h : ¬ Un.Right L ∨ id < 0) : recS L id ops = (none, 2) := by
  rw [recS, if_pos]
  rcases h with h | h
  · exact .inl h
  · exact .inr (.inl h)
set_option maxHeartbeats 3200000 in
set_option maxRecDepth 16384 in
theorem zero_walk (w : World) (a : Option Addr) (c : Nat) (L0 : List Tri) (id num delta : Int) (hA : ArgT w a c L0) :
    Calls Try.prog 6 #[.slice a L0.length c, .int .i64 id, .int .i64 num, .int .i64 delta] w fun e w' => e = .returned (.bool true) ∧ Same (fun _ => False) w w' := by
  have hsh := shown_any w
  have HA := Lib.hid hA
  clear hA
  obtain ⟨n, hn⟩ : ∃ n, n = L0.length := ⟨_, rfl⟩
  rw [← hn]
  have HN := Lib.hid hn
  clear hn
  go_enter Try.func6, Try.ntmps6
  go_wp2_with fail
  refine hsh.mono ?_
  rintro e w1 ⟨rfl, hs1⟩
  have hct := cut_any w1 a c L0 (HA.out.row.same0 hs1) HA.out.len HA.out.cap HA.out.nil (fun x hx => by have := HA.out.blk x hx; have := hs1.size; omega)
  rw [← HN.out] at hct
  clear hsh
  go_wp2_with fail
  refine hct.mono ?_
  rintro e w2 ⟨v, rfl, hown, hs2⟩
  obtain ⟨L, hL⟩ : ∃ L, L = L0.take 70 := ⟨_, rfl⟩
  have hL70 : L.length ≤ 70 := by rw [hL, List.length_take]; omega
  rw [← hL] at hown
  obtain ⟨ao, cap, rfl, hao, hab, han, hac⟩ := own_tri hown
  have H2 := Lib.hid (And.intro (hs1.trans hs2) hao)
  clear hct hown hao hs1 hs2 hL
  obtain ⟨nL, hnL⟩ : ∃ n, n = L.length := ⟨_, rfl⟩
  rw [← hnL]
  have HNL := Lib.hid hnL
  clear hnL
  by_cases hb : num < 0 ∨ 20 < num ∨ delta < -32767 ∨ 32767 < delta
  · have fin : ∀ b1 b2 b3 b4 : Bool, True := fun _ _ _ _ => trivial
    by_cases h1 : num < 0
    · have e1 : decide (num < 0) = true := by simpa using h1
      go_wp2
      go_ret
      exact ⟨rfl, H2.out.1⟩
    have e1 : decide (num < 0) = false := by simpa using h1
    by_cases h2 : 20 < num
    · have e2 : decide (20 < num) = true := by simpa using h2
      go_wp2
      go_ret
      exact ⟨rfl, H2.out.1⟩
    have e2 : decide (20 < num) = false := by simpa using h2
    by_cases h3 : delta < -32767
    · have e3 : decide (delta < -32767) = true := by simpa using h3
      go_wp2
      go_ret
      exact ⟨rfl, H2.out.1⟩
    have e3 : decide (delta < -32767) = false := by simpa using h3
    have e4 : decide (32767 < delta) = true := by simp; omega
    go_wp2
    go_ret
    exact ⟨rfl, H2.out.1⟩
  · have e1 : decide (num < 0) = false := by simp; omega
    have e2 : decide (20 < num) = false := by simp; omega
    have e3 : decide (delta < -32767) = false := by simp; omega
    have e4 : decide (32767 < delta) = false := by simp; omega
    have hng : IntKind.i64.wrap (-delta) = -delta := by
      simp [IntKind.wrap, IntKind.bits, IntKind.signed]
      omega
    have hrc := record_any (w2.alloc (.cells (flat3 (ops2 num delta)).toArray 35)) ao (some ⟨w2.heap.size, 0, none⟩) cap 2 L (ops2 num delta) id (H2.out.2.same0 (same_alloc _)) (lit_tri w2 35 (ops2 num delta) (by simp [ops2, maxLen])) (by unfold maxLen; omega) (by simp [ops2, maxLen]) (fun x hx => by have := (hab x hx).2; simp; omega) (fun x h => by cases h; simp)
    rw [← HNL.out] at hrc
    have HB := Lib.hid hb
    clear hb
    go_wp2_with fail
    refine hrc.mono ?_
    rintro e w3 ⟨v3, rfl, hv3, hs3⟩
    have hs03 := (H2.out.1.alloc (.cells (flat3 (ops2 num delta)).toArray 35)).trans hs3
    have hao3 := (H2.out.2.same0 (same_alloc (.cells (flat3 (ops2 num delta)).toArray 35))).same0 hs3
    have hz3 := hs3.size
    simp only [World.size_alloc] at hz3
    have H3 := Lib.hid (And.intro hs03 hao3)
    clear hrc hs3 hs03 hao3
    by_cases hg : Un.Right L ∧ 0 ≤ id
    · have HB2 := HB.out
      rcases zero_law (num := num) (delta := delta) hg.1 hg.2 (by omega) (by omega) with hz | hz
      · rw [hz] at hv3 ⊢
        have hv3' : v3 = .slice none 0 0 := hv3
        subst hv3'
        clear hg hv3 hz HB2
        go_wp2
        go_ret
        exact ⟨rfl, H3.out.1⟩
      · rw [hz] at hv3 ⊢
        have hv3' : w3.ownsRow (w2.alloc (.cells (flat3 (ops2 num delta)).toArray 35)).heap.size 45 3 v3 L.length (flat3 L) := hv3
        obtain ⟨bo, cap3, rfl, hbo, -⟩ := own_tri hv3'
        have hsm := same_any w3 bo ao cap3 cap L hbo H3.out.2 (by unfold maxLen; omega)
        rw [← HNL.out] at hsm ⊢
        clear hg hv3 hv3' hz HB2 hbo
        go_wp2_with fail
        refine hsm.mono ?_
        rintro e w4 ⟨rfl, hs4⟩
        have H4 := Lib.hid (H3.out.1.trans hs4)
        clear hsm hs4
        go_wp2
        go_ret
        exact ⟨rfl, H4.out⟩
    · have hbad : ¬ Un.Right L ∨ id < 0 := by
        by_cases h : Un.Right L
        · right
          have : ¬ 0 ≤ id := fun h2 => hg ⟨h, h2⟩
          omega
        · exact .inl h
      have hz := zero_bad (ops := ops2 num delta) hbad
      rw [hz] at hv3 ⊢
      have hv3' : v3 = .slice none 0 0 := hv3
      subst hv3'
      clear hv3 hz hg
      by_cases hid : id < 0
      · have e5 : decide (id < 0) = true := by simpa using hid
        clear hbad
        go_wp2
        go_ret
        exact ⟨rfl, H3.out.1⟩
      · have e5 : decide (id < 0) = false := by simpa using hid
        have hnr : ¬ Un.Right L := by
          rcases hbad with h | h
          · exact h
          · exact absurd h hid
        have hri := right_any w3 ao cap L H3.out.2 (by unfold maxLen; omega) (fun x hx => by have := (hab x hx).2; omega)
        rw [← HNL.out] at hri
        have HNR := Lib.hid hnr
        clear hbad hnr
        go_wp2_with fail
        refine hri.mono ?_
        rintro e w4 ⟨b, hb, rfl, hs4⟩
        have hbf : b = false := by
          cases b
          · rfl
          · exact absurd (hb.1 rfl) HNR.out
        subst hbf
        have H4 := Lib.hid (H3.out.1.trans hs4)
        clear hri hb hs4
        go_wp2
        go_ret
        exact ⟨rfl, H4.out⟩
end Go.Proofs.Ytcnocfboklhjnaa
