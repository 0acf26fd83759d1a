/- proc: the reference's Wake. Conditions: its form. -/
import Derived.Test.YtaeabeofpkfadaaRi
namespace Go.Proofs.Ytaeabeofpkfadaa
open Go.RowKit Go.Shelf
attribute [local go_sem] Oper.semAt_some

set_option maxHeartbeats 3200000 in
set_option maxRecDepth 16384 in
theorem rwake_any {s : Nat} {w : World} {r g cap : Nat} {L : List Pr} {last : Int} (h : RAt s w r g cap L last) (c : ByteArray) :
    Calls Try.prog 38 #[.pointer (some ⟨r, 0, none⟩), .string c] w fun e w' => ∃ v, e = .returned v ∧ w'.ownsRow w.heap.size 3 1 v (woken L c).length (wv L c) ∧ RQ s w r g (L.map (wk c)) last w' := by
  obtain ⟨n, hn⟩ : ∃ n, n = L.length := ⟨_, rfl⟩
  have hl := h.len
  have hlt := h.lt
  have H := Lib.hid h
  have HN := Lib.hid hn
  have hgr := h.gr
  have hrg : ¬ r = g := fun e => hgr e.symm
  rw [← hn] at hl
  clear h hn
  go_enter Try.func38, Try.ntmps38
  go_wp2
  go_loopw [5, 6] (fun v5 v6 wx => ∃ (i : Nat) (vv : Value) (W : World), vv = v5 ∧ W = wx ∧ i ≤ n ∧ v6 = .int .i64 i ∧ RAt s W r g cap (mix (wk c) L i) last ∧ W.ownsRow w.heap.size 3 1 vv (woken (L.take i) c).length (wv (L.take i) c) ∧ Same (fun k => k = r ∨ k = g) w W) (fun _ v6 _ => n - (intOf v6).toNat)
  case atStart => exact ⟨0, _, _, rfl, rfl, by omega, rfl, H.out, World.ownsRow_nil _ _ _ _, Same.refl _ _⟩
  case round =>
    obtain ⟨i, vv, W, hvv, hW, hin, rfl, hR, hO, hsW⟩ := hrel
    subst hvv
    subst hW
    have d0 := hR.c0
    rw [mix_len, ← HN.out] at d0
    by_cases hil : i < n
    · have hii : (i : Int) < n := by omega
      obtain ⟨q, hq⟩ : ∃ q, L[i]? = some q := ⟨_, List.getElem?_eq_getElem (by have := HN.out; omega)⟩
      obtain ⟨e2, y2⟩ := hR.at_ (mix_at hq) (j := 2) rfl
      obtain ⟨e5, y5⟩ := hR.at_ (mix_at hq) (j := 5) rfl
      have e0 : W.cell? ⟨g, i * 8, none⟩ = some (.int .i64 q.pid) := (hR.at_ (mix_at hq) (j := 0) rfl).1
      have hgl := hR.lt
      have HR := Lib.hid hR
      have HQ := Lib.hid hq
      have HSW := Lib.hid hsW
      have HO := Lib.hid hO
      clear hR hq hsW hO
      have no : isW c q = false → RAt s W r g cap (mix (wk c) L (i + 1)) last ∧ W.ownsRow w.heap.size 3 1 vv (woken (L.take (i + 1)) c).length (wv (L.take (i + 1)) c) := fun hw => by
        refine ⟨HR.out.cast ?_, ?_⟩
        · rw [← mix_step HQ.out]
          have hf : wk c q = q := by unfold wk; rw [hw]; rfl
          rw [hf, set_self (mix_at HQ.out)]
        · rw [woken_no HQ.out hw, wv_no HQ.out hw]; exact HO.out
      have NO := Lib.hid no
      clear no
      by_cases h2 : q.st = 2
      · by_cases h5 : q.ch = c
        · have hw : isW c q = true := by simp [isW, h2, h5]
          rw [h2] at e2
          rw [h5] at e5
          have q1 := HR.out.store (p' := { q with st := 1 }) (mix_at HQ.out) (j := 2) (v := .int .i64 1) (by omega) rfl
          have hiL : i < (mix (wk c) L i).length := (List.getElem?_eq_some_iff.1 (mix_at (f := wk c) HQ.out)).1
          have q2 := q1.store (i := i) (p := { q with st := 1 }) (p' := up q) (List.getElem?_set_self hiL) (j := 5) (v := .string ⟨#[]⟩) (by omega) rfl
          rw [List.set_set] at q2
          have hwk : wk c q = up q := by unfold wk; rw [hw]; rfl
          rw [← hwk, mix_step HQ.out] at q2
          obtain ⟨X, hX⟩ : ∃ X, X = (W.setCell ⟨g, i * 8 + 2, none⟩ (.int .i64 1)).setCell ⟨g, i * 8 + 5, none⟩ (.string ⟨#[]⟩) := ⟨_, rfl⟩
          rw [← hX] at q2
          have sX : Same (· = g) W X := by rw [hX]; exact ((Same.refl (· = g) _).setCell _ (.inr rfl)).setCell _ (.inr rfl)
          have hog : ∀ gx, vv.ownBlock = some gx → w.heap.size ≤ gx := fun gx hgx => (ownsRow_shape HO.out hgx).1
          have oX := ownsRow_same HO.out sX (fun gx hgx e => by have := hog gx hgx; omega)
          obtain ⟨i0, hi0, hq0, hq1, hq2⟩ := info_parts Try.info3
          have hsA : Same (fun _ => False) X (X.alloc (.cells #[.int .i64 q.pid] 3)) := same_alloc _
          have oA := ownsRow_same oX hsA (fun _ _ h => h)
          have hwl := woken_le (L.take i) c
          have hwl2 : (L.take i).length ≤ 16 := by rw [List.length_take]; omega
          have c1 : ∀ j u, ([.int .i64 q.pid] : List Value)[j]? = some u → (X.alloc (.cells #[.int .i64 q.pid] 3)).cell? ((⟨X.heap.size, 0, none⟩ : Addr).add j) = some u := fun j u hu => cells_new rfl hu
          have b3 : w.heap.size ≤ (X.alloc (.cells #[.int .i64 q.pid] 3)).heap.size := by have := sX.size; have := HSW.out.size; simp; omega
          have hX0 : X.heap.size = W.heap.size := by rw [hX]; simp
          rw [hX0] at c1
          rw [hX] at oA c1 b3
          have A := Lib.hid (And.intro oA (And.intro c1 b3))
          have HX := Lib.hid (And.intro hX (And.intro q2 (And.intro sX (And.intro hsA hog))))
          have hc3 : (woken (L.take i) c).length + 1 ≤ maxLen := by unfold maxLen; omega
          have hc4 : ((woken (L.take i) c).length + 1) * 8 ≤ 140737488355328 := by omega
          have B := Lib.hid (And.intro hc3 hc4)
          have HW := Lib.hid hw
          clear q1 q2 oX oA c1 b3 hX sX hsA hog hc3 hc4 hwl hwl2 hwk hX0 h2 h5 hw
          go_wp2_with (refine wpList_append_same rfl _ _ 22 rfl w.heap.size 3 i0 (.int .i64 0) 1 8 Try.underlying22 hi0 hq0 hq1 hq2 rfl (by decide) _ _ _ rfl A.out.1 ⟨W.heap.size, 0, none⟩ 1 1 [.int .i64 q.pid] rfl rfl A.out.2.1 (by simp [Value.oneCell']) B.out.1 B.out.2 A.out.2.2 ?_; intro v' w6 hown6 hsame6 hblk6)
          obtain ⟨hX, q2, sX, hsA, hog⟩ := HX.out
          rw [← hX] at hsame6
          have sA6 : Same (fun k => vv.ownBlock = some k) X w6 := (hsA.mono (fun _ _ h => h.elim)).trans hsame6
          have hR6 := q2.same sA6 (fun h => by have := hog _ h; omega) (fun h => by have := hog _ h; omega)
          have hsu := woken_succ c HQ.out
          rw [if_pos HW.out] at hsu
          have hs6 : Same (fun k => k = r ∨ k = g) w w6 := (HSW.out.trans (sX.mono (fun _ _ e => .inr e))).trans' sA6 (fun k e hk => by have := hog _ e; omega)
          go_round
          case rel => exact ⟨i + 1, _, _, rfl, rfl, by omega, by go_num, hR6, by rw [hsu, wv_yes HQ.out HW.out]; exact hown6, hs6⟩
          case measure => simp [intOf]; omega
        · have hw : isW c q = false := by simp [isW, h5]
          rw [h2] at e2
          have hch : (q.ch == c) = false := beq_ne h5
          have hch2 : (q.ch.toList == c.toList) = false := by rw [← beq_toListBytes]; exact hch
          clear h2
          go_wp2
          go_round
          case rel => exact ⟨i + 1, _, _, rfl, rfl, by omega, by go_num, (NO.out hw).1, (NO.out hw).2, HSW.out⟩
          case measure => simp [intOf]; omega
      · have hw : isW c q = false := by simp [isW, h2]
        have h2' : (q.st == 2) = false := by simpa using h2
        go_wp2
        go_round
        case rel => exact ⟨i + 1, _, _, rfl, rfl, by omega, by go_num, (NO.out hw).1, (NO.out hw).2, HSW.out⟩
        case measure => simp [intOf]; omega
    · obtain rfl : i = n := by omega
      have hfull : L.take i = L := by rw [HN.out, List.take_length]
      rw [hfull] at hO
      have HR := Lib.hid hR
      have HSW := Lib.hid hsW
      have HO := Lib.hid hO
      clear hR hsW hO
      go_wp2
      go_ret
      exact ⟨vv, rfl, HO.out, g, cap, HR.out.cast (mix_full _ _ HN.out), .inl rfl, HSW.out⟩
end Go.Proofs.Ytaeabeofpkfadaa
