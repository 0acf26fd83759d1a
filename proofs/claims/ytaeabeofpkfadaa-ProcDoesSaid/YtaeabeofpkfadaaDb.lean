/- proc: an act on both tables. Conditions: their form. -/
import Derived.Test.YtaeabeofpkfadaaDa
import Derived.Test.YtaeabeofpkfadaaY
namespace Go.Proofs.Ytaeabeofpkfadaa
open Go.RowKit Go.Shelf
attribute [local go_sem] Oper.semAt_some
attribute [local go_sem] PUpon

/-- Both tables keep the same processes, and lie apart. -/
structure Both (s : Nat) (w : World) (t m r : Nat) (L : List Pr) (last : Int) : Prop where
  tab : TabI w t m L last
  st : St L
  ref : ∃ g cap, RAt s w r g cap L last ∧ ∀ k, Own t m L k → k ≠ r ∧ k ≠ g
theorem own_lt {w : World} {t m : Nat} {L : List Pr} {last : Int} (h : TabAt w t m L last) {k : Nat} (hk : Own t m L k) : k < w.heap.size := by
  have := h.lt
  rcases hk with e | e | ⟨p, hp, e⟩
  · omega
  · omega
  · have := this.2.2 p hp; omega
theorem own_actL {t m : Nat} {L : List Pr} {last : Int} {x : Do} {b k : Nat} (h : Own t m (actL L last x b) k) : Own t m L k ∨ k = b := by
  rcases h with e | e | ⟨q, hq, e⟩
  · exact .inl (.inl e)
  · exact .inl (.inr (.inl e))
  · rcases act_b x b q hq with e2 | ⟨p, hp, e2⟩
    · right; omega
    · exact .inl (.inr (.inr ⟨p, hp, by omega⟩))
/-- What 'did' leaves. -/
def DidQ (s : Nat) (w : World) (t m r : Nat) (L : List Pr) (last : Int) (x : Do) (e : Ending) (w' : World) : Prop :=
  ∃ b, e = .returned (.bool true) ∧ w.heap.size ≤ b ∧ Both s w' t m r (actL L last x b) (actLast L last x) ∧ ∃ g0, s ≤ g0 ∧ Same (fun k => Own t m L k ∨ k = r ∨ k = g0) w w'
/-- The program's call, then the reference's. -/
theorem both_seq {s : Nat} {w w1 w2 : World} {t m r g cap b : Nat} {L : List Pr} {last : Int} {x : Do} (hI : Inv L last) (hst : St L) (hw : TabAt w t m L last) (hR : RAt s w r g cap L last) (hd : ∀ k, Own t m L k → k ≠ r ∧ k ≠ g) (hb : w.heap.size ≤ b)
    (h1 : TabAt w1 t m (actL L last x b) (actLast L last x)) (s1 : Same (Own t m L) w w1) (hq : RQ s w1 r g (actL L last x b) (actLast L last x) w2) :
    Both s w2 t m r (actL L last x b) (actLast L last x) ∧ ∃ g0, s ≤ g0 ∧ Same (fun k => Own t m L k ∨ k = r ∨ k = g0) w w2 := by
  obtain ⟨g', cap', hR2, hg', s2⟩ := hq
  have hrl := hR.lt
  have hsz := s1.size
  have ho : ∀ k, Own t m (actL L last x b) k → k ≠ r ∧ k ≠ g ∧ k < w1.heap.size := fun k hk => by
    have hk1 := own_lt h1 hk
    rcases own_actL hk with e | e
    · exact ⟨(hd k e).1, (hd k e).2, hk1⟩
    · exact ⟨by omega, by omega, hk1⟩
  refine ⟨⟨⟨h1.same s2 (fun k hk e => by have := ho k hk; omega), hI.act x b⟩, hst.act x b, g', cap', hR2, fun k hk => ?_⟩, g, hrl.2.2, (s1.mono (fun _ _ e => .inl e)).trans (s2.mono (fun k _ e => .inr e))⟩
  have := ho k hk
  exact ⟨this.1, by omega⟩
theorem RAt.sameOwn {s : Nat} {w w' : World} {t m r g cap : Nat} {L : List Pr} {last : Int} (h : RAt s w r g cap L last) (hd : ∀ k, Own t m L k → k ≠ r ∧ k ≠ g) (hs : Same (Own t m L) w w') : RAt s w' r g cap L last :=
  h.same hs (fun e => (hd _ e).1 rfl) (fun e => (hd _ e).2 rfl)
/-- Two calls in whatever order. -/
theorem two_both {s : Nat} {w0 w : World} {t m r g0 : Nat} {L L' : List Pr} {last : Int} {o x : Do} (ha : Apart2 w0 t m r g0 L L') (hI : Inv L last) (hst : St L) (hs : s ≤ g0) (hL : L' = actL L last x w0.heap.size) (hl : last = actLast L last x)
    (h : Two s w0 t m r g0 L L' last o true true w) : Both s w t m r (actL L last x w0.heap.size) (actLast L last x) ∧ ∃ g0, s ≤ g0 ∧ Same (fun k => Own t m L k ∨ k = r ∨ k = g0) w0 w := by
  obtain ⟨g, cap, hR, hg⟩ := h.ref
  have ht := h.tab
  simp only [if_true] at ht hR
  rw [← hL, ← hl]
  refine ⟨⟨⟨ht, ?_⟩, ?_, g, cap, hR, fun k hk => ?_⟩, g0, hs, h.same⟩
  · have := hI.act x w0.heap.size
    rwa [← hL, ← hl] at this
  · have := hst.act (last := last) x w0.heap.size
    rwa [← hL] at this
  · have := ha.own k (ha.own' k hk)
    exact ⟨this.2.1, by omega⟩
set_option maxHeartbeats 6400000 in
set_option maxRecDepth 16384 in
theorem did_seq {s : Nat} {w : World} {t m r : Nat} {L : List Pr} {last : Int} (h : Both s w t m r L last) (d pid stat uid gid : Int) (ch : ByteArray) (hd : d % 8 = 0 ∨ d % 8 = 1 ∨ d % 8 = 4) :
    Calls Try.prog 18 #[.pointer (some ⟨t, 0, none⟩), .pointer (some ⟨r, 0, none⟩), .agg #[.int .i64 d, .int .i64 pid, .int .i64 stat, .int .i64 uid, .int .i64 gid, .string ch]] w (DidQ s w t m r L last ⟨d, pid, stat, uid, gid, txt ch⟩) := by
  have hs0 : Same (fun _ => False) w (w.alloc (.cells #[.int .i64 d, .int .i64 pid, .int .i64 stat, .int .i64 uid, .int .i64 gid, .string ch] 47)) := same_alloc _
  obtain ⟨g, cap, hR, hap⟩ := h.ref
  have h0 : TabI (w.alloc (.cells #[.int .i64 d, .int .i64 pid, .int .i64 stat, .int .i64 uid, .int .i64 gid, .string ch] 47)) t m L last := ⟨h.tab.tab.same0 hs0, h.tab.inv⟩
  have hR0 := hR.same0 hs0
  have hw8 := wrap8 d
  have hxo : ¬ Own t m L w.heap.size := fun e => by have := own_lt h.tab.tab e; omega
  have hsz0 : (w.alloc (.cells #[.int .i64 d, .int .i64 pid, .int .i64 stat, .int .i64 uid, .int .i64 gid, .string ch] 47)).heap.size = w.heap.size + 1 := by simp
  have HH := Lib.hid (And.intro h (And.intro h0 (And.intro hR0 (And.intro hap hs0))))
  clear h hR h0 hR0 hap hs0
  unfold DidQ
  rcases hd with hd | hd | hd
  all_goals rw [hd] at hw8
  all_goals have HD := Lib.hid hd
  all_goals clear hd
  · obtain ⟨h, h0, hR0, hap, hs0⟩ := HH.out
    have HF := Lib.hid (fork_any h0 pid)
    have HR := Lib.hid (fun (W : World) (hs : Same (Own t m L) _ W) (b : Nat) => rfork_any (hR0.sameOwn hap hs) h0.inv pid b)
    clear h h0 hR0 hap hs0
    go_enter Try.func18, Try.ntmps18
    go_wp2_with fail
    refine HF.out.mono ?_
    rintro e w1 ⟨b, rfl, hb, hT, hs⟩
    have hb1 := hs.cell (a := ⟨w.heap.size, 1, none⟩) (v := .int .i64 pid) (by simp [go_sem]) hxo
    have HT := Lib.hid hT
    have HS := Lib.hid hs
    have HRR := Lib.hid (HR.out w1 hs b)
    clear hT hs
    go_wp2_with fail
    refine HRR.out.mono ?_
    rintro e w2 ⟨rfl, hq⟩
    have HQ := Lib.hid hq
    clear hq hb1
    go_wp2
    go_ret
    obtain ⟨h, h0, hR0, hap, hs0⟩ := HH.out
    obtain ⟨hB, g0, hg0, hS⟩ := both_seq (x := ⟨d, pid, stat, uid, gid, txt ch⟩) (b := b) h0.inv h.st h0.tab hR0 hap (by omega) (by simp only [actL, actLast, HD.out]; exact HT.out) HS.out (by simp only [actL, actLast, HD.out]; exact HQ.out)
    exact ⟨b, rfl, by omega, hB, g0, hg0, (hs0.mono (fun _ _ h => h.elim)).trans hS⟩
  · obtain ⟨h, h0, hR0, hap, hs0⟩ := HH.out
    have HF := Lib.hid (fork_any h0 pid)
    have HR := Lib.hid (fun (W : World) (hs : Same (Own t m L) _ W) (b : Nat) => rfork_any (hR0.sameOwn hap hs) h0.inv pid b)
    clear h h0 hR0 hap hs0
    go_enter Try.func18, Try.ntmps18
    go_wp2_with fail
    refine HF.out.mono ?_
    rintro e w1 ⟨b, rfl, hb, hT, hs⟩
    have hb1 := hs.cell (a := ⟨w.heap.size, 1, none⟩) (v := .int .i64 pid) (by simp [go_sem]) hxo
    have HT := Lib.hid hT
    have HS := Lib.hid hs
    have HRR := Lib.hid (HR.out w1 hs b)
    clear hT hs
    go_wp2_with fail
    refine HRR.out.mono ?_
    rintro e w2 ⟨rfl, hq⟩
    have HQ := Lib.hid hq
    clear hq hb1
    go_wp2
    go_ret
    obtain ⟨h, h0, hR0, hap, hs0⟩ := HH.out
    obtain ⟨hB, g0, hg0, hS⟩ := both_seq (x := ⟨d, pid, stat, uid, gid, txt ch⟩) (b := b) h0.inv h.st h0.tab hR0 hap (by omega) (by simp only [actL, actLast, HD.out]; exact HT.out) HS.out (by simp only [actL, actLast, HD.out]; exact HQ.out)
    exact ⟨b, rfl, by omega, hB, g0, hg0, (hs0.mono (fun _ _ h => h.elim)).trans hS⟩
  · obtain ⟨h, h0, hR0, hap, hs0⟩ := HH.out
    have HF := Lib.hid (wait_u h0 pid)
    have HR := Lib.hid (fun (W : World) (hs : Same (Own t m L) _ W) => rwait_any (hR0.sameOwn hap hs) h0.inv pid)
    clear h h0 hR0 hap hs0
    go_enter Try.func18, Try.ntmps18
    go_wp2_with fail
    refine HF.out.mono ?_
    rintro e w1 ⟨rfl, hT, hs⟩
    have hb1 := hs.cell (a := ⟨w.heap.size, 1, none⟩) (v := .int .i64 pid) (by simp [go_sem]) hxo
    have HT := Lib.hid hT
    have HS := Lib.hid hs
    have HRR := Lib.hid (HR.out w1 hs)
    clear hT hs
    go_wp2_with fail
    refine HRR.out.mono ?_
    rintro e w2 ⟨rfl, hq⟩
    have HQ := Lib.hid hq
    clear hq hb1
    go_wp2
    go_ret
    obtain ⟨h, h0, hR0, hap, hs0⟩ := HH.out
    obtain ⟨hB, g0, hg0, hS⟩ := both_seq (x := ⟨d, pid, stat, uid, gid, txt ch⟩) (b := (w.heap.size + 1)) h0.inv h.st h0.tab hR0 hap (by omega) (by simp only [actL, actLast, HD.out]; exact HT.out) HS.out (by simp only [actL, actLast, HD.out]; exact HQ.out)
    exact ⟨(w.heap.size + 1), rfl, by omega, hB, g0, hg0, (hs0.mono (fun _ _ h => h.elim)).trans hS⟩
end Go.Proofs.Ytaeabeofpkfadaa
