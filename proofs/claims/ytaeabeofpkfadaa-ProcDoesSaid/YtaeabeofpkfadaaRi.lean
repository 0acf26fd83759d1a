/- proc: the reference's Exit, Wake. Conditions: its form. -/
import Derived.Test.YtaeabeofpkfadaaRh
namespace Go.Proofs.Ytaeabeofpkfadaa
open Go.RowKit Go.Shelf
attribute [local go_sem] Oper.semAt_some

/-- The first i are changed. -/
def mix (f : Pr → Pr) (L : List Pr) (i : Nat) : List Pr := (L.take i).map f ++ L.drop i
theorem mix_zero (f : Pr → Pr) (L : List Pr) : mix f L 0 = L := rfl
theorem mix_full (f : Pr → Pr) (L : List Pr) {n : Nat} (h : n = L.length) : mix f L n = L.map f := by subst h; simp [mix]
theorem mix_len (f : Pr → Pr) (L : List Pr) (i : Nat) : (mix f L i).length = L.length := by simp [mix]; omega
theorem mix_at {f : Pr → Pr} {L : List Pr} {i : Nat} {q : Pr} (h : L[i]? = some q) : (mix f L i)[i]? = some q := by
  have hi := (List.getElem?_eq_some_iff.1 h).1
  unfold mix
  rw [List.getElem?_append_right (by simp; omega), List.length_map, List.length_take, List.getElem?_drop, ← h]
  congr 1
  omega
theorem mix_step {f : Pr → Pr} {L : List Pr} {i : Nat} {q : Pr} (h : L[i]? = some q) : (mix f L i).set i (f q) = mix f L (i + 1) := by
  have hi := (List.getElem?_eq_some_iff.1 h).1
  unfold mix
  rw [List.set_append_right _ _ (by simp; omega), List.take_add_one, h, List.map_append]
  have hd : L.drop i = q :: L.drop (i + 1) := by
    rw [List.drop_eq_getElem_cons hi]
    congr 1
    exact (List.getElem?_eq_some_iff.1 h).2
  rw [hd]
  have : i - (List.map f (List.take i L)).length = 0 := by simp; omega
  rw [this]
  simp
theorem set_self {L : List Pr} {i : Nat} {q : Pr} (h : L[i]? = some q) : L.set i q = L := by
  apply List.ext_getElem?
  intro j
  rw [List.getElem?_set]
  split
  · rename_i e
    subst e
    rw [if_pos (List.getElem?_eq_some_iff.1 h).1, h]
  · rfl
theorem RAt.cast {s : Nat} {w : World} {r g cap : Nat} {L L' : List Pr} {last : Int} (h : RAt s w r g cap L last) (e : L = L') : RAt s w r g cap L' last := e ▸ h
set_option maxHeartbeats 3200000 in
set_option maxRecDepth 16384 in
theorem rexit_any {s : Nat} {w : World} {r g cap : Nat} {L : List Pr} {last : Int} (h : RAt s w r g cap L last) (hi : Inv L last) (pid stat : Int) :
    Calls Try.prog 33 #[.pointer (some ⟨r, 0, none⟩), .int .i64 pid, .int .i64 stat] w fun e w' => e = .returned (.int .i64 (exE L pid stat)) ∧ RQ s w r g (exL L pid stat) last w' := by
  have ha := at_any h pid
  have hrq := h.rq (Same.refl _ w)
  unfold exE exL exP rn
  rcases at_cases L pid with ⟨h1, h2⟩ | ⟨k, p, h1, hp, h2⟩
  · rw [h2] at ha
    rw [h1]
    simp only
    clear h h1 h2
    go_enter Try.func33, Try.ntmps33
    go_wp2_with fail
    refine ha.mono ?_
    rintro e w1 ⟨rfl, rfl⟩
    go_wp2
    go_ret
    exact ⟨rfl, hrq⟩
  · rw [h2] at ha
    rw [h1]
    have hk0 : ¬ (k : Int) < 0 := by omega
    have hl := h.len
    have hkl := (List.getElem?_eq_some_iff.1 hp).1
    have hc0 := h.c0
    obtain ⟨c2, z2⟩ := h.at_ hp (j := 2) rfl
    obtain ⟨n, hn⟩ : ∃ n, n = L.length := ⟨_, rfl⟩
    have H := Lib.hid h
    have HP := Lib.hid hp
    have HN := Lib.hid hn
    have hgr := h.gr
    have hrg : ¬ r = g := fun e => hgr e.symm
    rw [← hn] at hc0 hkl hl
    have hkn : (k : Int) < n := by omega
    clear h h1 h2 hp hn
    by_cases e1 : p.st = 1
    · rw [e1] at c2
      simp only [e1, if_true]
      by_cases hs : stat < 0 ∨ 255 < stat ∨ pid = 1
      · simp only [hs, if_true]
        rcases (by omega : stat < 0 ∨ (¬ stat < 0 ∧ 255 < stat) ∨ (¬ stat < 0 ∧ ¬ 255 < stat ∧ pid = 1)) with g1 | ⟨g1, g2⟩ | ⟨g1, g2, g3⟩
        · clear hs
          go_enter Try.func33, Try.ntmps33
          go_wp2_with fail
          refine ha.mono ?_
          rintro e w1 ⟨rfl, rfl⟩
          go_wp2
          go_ret
          exact ⟨rfl, hrq⟩
        · have g1' : decide (stat < 0) = false := by simpa using g1
          clear hs
          go_enter Try.func33, Try.ntmps33
          go_wp2_with fail
          refine ha.mono ?_
          rintro e w1 ⟨rfl, rfl⟩
          go_wp2
          go_ret
          exact ⟨rfl, hrq⟩
        · have g1' : decide (stat < 0) = false := by simpa using g1
          have g2' : decide (255 < stat) = false := by simpa using g2
          subst g3
          clear hs
          go_enter Try.func33, Try.ntmps33
          go_wp2_with fail
          refine ha.mono ?_
          rintro e w1 ⟨rfl, rfl⟩
          go_wp2
          go_ret
          exact ⟨rfl, hrq⟩
      · simp only [hs, if_false]
        have g1 : ¬ stat < 0 := by omega
        have g2 : ¬ 255 < stat := by omega
        have g3 : ¬ pid = 1 := by omega
        have g1' : decide (stat < 0) = false := by simpa using g1
        have g2' : decide (255 < stat) = false := by simpa using g2
        have g3' : (pid == 1) = false := by simpa using g3
        obtain ⟨c6, z6⟩ := H.out.at_ HP.out (j := 6) rfl
        obtain ⟨L2, hL2⟩ : ∃ L2, L2 = put L { p with st := 3, stat := stat } := ⟨_, rfl⟩
        rw [← hL2]
        have HL2 := Lib.hid hL2
        clear hs hrq g1 g2 g3 hL2
        go_enter Try.func33, Try.ntmps33
        go_wp2_with fail
        refine ha.mono ?_
        rintro e w1 ⟨rfl, rfl⟩
        have q1 := H.out.store (p' := { p with st := 3 }) HP.out (j := 2) (v := .int .i64 3) (by omega) rfl
        have hkL : k < L.length := (List.getElem?_eq_some_iff.1 HP.out).1
        have q2 := q1.store (i := k) (p := { p with st := 3 }) (p' := { p with st := 3, stat := stat }) (List.getElem?_set_self hkL) (j := 6) (v := .int .i64 stat) (by omega) rfl
        rw [List.set_set, put_set hi HP.out (p' := { p with st := 3, stat := stat }) rfl] at q2
        have hL2 := HL2.out
        have hn2 : n = L2.length := by rw [hL2, put_length]; exact HN.out
        rw [← hL2] at q2
        have Q2 := Lib.hid q2
        have HN2 := Lib.hid hn2
        have s2 : Same (fun k => k = r ∨ k = g) w1 ((w1.setCell ⟨g, k * 8 + 2, none⟩ (.int .i64 3)).setCell ⟨g, k * 8 + 6, none⟩ (.int .i64 stat)) := ((Same.refl (fun k => k = r ∨ k = g) _).setCell _ (.inr (.inr rfl))).setCell _ (.inr (.inr rfl))
        have S2 := Lib.hid s2
        clear q1 q2 hL2 hn2 s2
        go_wp2
        go_loopw [8] (fun v8 wx => ∃ (i : Nat) (W : World), W = wx ∧ i ≤ n ∧ v8 = .int .i64 i ∧ RAt s W r g cap (mix (adopt pid) L2 i) last ∧ Same (fun k => k = r ∨ k = g) w1 W) (fun v8 _ => n - (intOf v8).toNat)
        case atStart => exact ⟨0, _, rfl, by omega, rfl, Q2.out, S2.out⟩
        case round =>
          obtain ⟨i, W, hW, hin, rfl, hR, hsW⟩ := hrel
          subst hW
          have d0 := hR.c0
          rw [mix_len, ← HN2.out] at d0
          by_cases hil : i < n
          · have hii : (i : Int) < n := by omega
            obtain ⟨q, hq⟩ : ∃ q, L2[i]? = some q := ⟨_, List.getElem?_eq_getElem (by have := HN2.out; omega)⟩
            obtain ⟨e1', y1'⟩ := hR.at_ (mix_at hq) (j := 1) rfl
            have HR := Lib.hid hR
            have HQ := Lib.hid hq
            have HSW := Lib.hid hsW
            clear hR hq hsW
            by_cases e : q.par = pid
            · rw [e] at e1'
              go_wp2
              go_round
              case rel =>
                refine ⟨i + 1, _, rfl, by omega, by go_num, ?_, HSW.out.setCell _ (.inr (.inr rfl))⟩
                have := HR.out.store (p' := { q with par := 1 }) (mix_at HQ.out) (j := 1) (v := .int .i64 1) (by omega) rfl
                refine this.cast ?_
                rw [← mix_step HQ.out]
                congr 1
                unfold adopt
                rw [if_pos e]
              case measure => simp [intOf]; omega
            · have he : (q.par == pid) = false := by simpa using e
              go_wp2
              go_round
              case rel =>
                refine ⟨i + 1, _, rfl, by omega, by go_num, ?_, HSW.out⟩
                refine HR.out.cast ?_
                rw [← mix_step HQ.out]
                have hf : adopt pid q = q := by unfold adopt; rw [if_neg e]
                rw [hf, set_self (mix_at HQ.out)]
              case measure => simp [intOf]; omega
          · obtain rfl : i = n := by omega
            have HR := Lib.hid hR
            have HSW := Lib.hid hsW
            clear hR hsW
            go_wp2
            go_ret
            exact ⟨rfl, g, cap, HR.out.cast (mix_full _ _ HN2.out), .inl rfl, HSW.out⟩
    · have hx1 : (p.st == 1) = false := by simpa using e1
      simp only [e1, if_false]
      rcases (by omega : stat < 0 ∨ (¬ stat < 0 ∧ 255 < stat) ∨ (¬ stat < 0 ∧ ¬ 255 < stat)) with g1 | ⟨g1, g2⟩ | ⟨g1, g2⟩
      · go_enter Try.func33, Try.ntmps33
        go_wp2_with fail
        refine ha.mono ?_
        rintro e w1 ⟨rfl, rfl⟩
        go_wp2
        go_ret
        exact ⟨rfl, hrq⟩
      · have g1' : decide (stat < 0) = false := by simpa using g1
        go_enter Try.func33, Try.ntmps33
        go_wp2_with fail
        refine ha.mono ?_
        rintro e w1 ⟨rfl, rfl⟩
        go_wp2
        go_ret
        exact ⟨rfl, hrq⟩
      · have g1' : decide (stat < 0) = false := by simpa using g1
        have g2' : decide (255 < stat) = false := by simpa using g2
        go_enter Try.func33, Try.ntmps33
        go_wp2_with fail
        refine ha.mono ?_
        rintro e w1 ⟨rfl, rfl⟩
        go_wp2
        go_ret
        exact ⟨rfl, hrq⟩
end Go.Proofs.Ytaeabeofpkfadaa
