/- The walk of CopyioParts. Conditions: the arguments' form. -/
import Derived.Test.YtlbgnmcjdmdjpaaCb
namespace Go.Proofs.Ytlbgnmcjdmdjpaa
open Go.RowKit Go.Shelf
attribute [local go_sem] Oper.semAt_some

theorem parts_law {M : Mm} {addr n k : Int} {s a b : ByteArray} (h1 : InR M 0 addr n 0 s) (h2 : InR M 0 addr k 0 a) (h3 : InR M 0 (addr + k) (n - k) 0 b) (hk : 0 ≤ k) (hkn : k ≤ n) (ha : 0 ≤ addr) :
    s = a ++ b ∧ (s.size : Int) = n ∧ a.size + b.size ≤ 9223372036854775807 := by
  have z := chk_zero h1.1
  have e1 : s = M.vstr 0 addr.toNat n.toNat := by rcases h1.2 with ⟨h, _⟩ | ⟨_, h⟩; exact absurd rfl h; exact h
  have e2 : a = M.vstr 0 addr.toNat k.toNat := by rcases h2.2 with ⟨h, _⟩ | ⟨_, h⟩; exact absurd rfl h; exact h
  have e3 : b = M.vstr 0 (addr + k).toNat (n - k).toNat := by rcases h3.2 with ⟨h, _⟩ | ⟨_, h⟩; exact absurd rfl h; exact h
  have zs : ∀ x y, (M.vstr 0 x y).size = y := fun x y => by
    have := M.vs_len 0 x y
    unfold Mm.vstr ByteArray.size
    simpa using this
  refine ⟨?_, by rw [e1, zs]; omega, by rw [e2, e3, zs, zs]; omega⟩
  apply ByteArray.ext
  apply Array.ext'
  rw [e1, e2, e3, ByteArray.data_append, Array.toList_append]
  unfold Mm.vstr
  simp only
  have hv := M.vs_add 0 addr.toNat k.toNat (n - k).toNat
  rw [show k.toNat + (n - k).toNat = n.toNat by omega, show addr.toNat + k.toNat = (addr + k).toNat by omega] at hv
  exact hv

set_option maxHeartbeats 3200000 in
set_option maxRecDepth 100000 in
theorem parts_walk (w : World) (a : Option Addr) (len cap : Nat) (gp : Nat → Int) (hlen : len ≤ 9223372036854775807)
    (ha : ∀ i, i < len → ∃ x, a = some x ∧ w.cell? (x.add i) = some (.int .i64 (gp i)))
    (addr n k : Int) (hia : In64 addr) (hin : In64 n) (hik : In64 k) :
    Calls Try.prog 10 #[.slice a len cap, .int .i64 addr, .int .i64 n, .int .i64 k] w fun e w' => e = .returned (.bool true) ∧ Same (fun _ => False) w w' := by
  go_enter Try.func10, Try.ntmps10
  go_wp2_with fail
  refine (shown3 _).mono ?_
  rintro e w1 ⟨rfl, hs1⟩
  go_wp2_with fail
  refine (laid_any _ a len cap none 0 0 gp (fun _ => false) hlen (by omega) (fun i hi => ?_) (fun i hi => by omega)).mono ?_
  · obtain ⟨x, hx, hc⟩ := ha i hi
    exact ⟨x, hx, hs1.cell hc (by simp)⟩
  rintro e w2 ⟨f, fb, r, rfl, hf, hfb, hM, hL, hs2⟩
  have hs02 : Same (fun _ => False) w w2 := hs1.trans hs2
  have hsz1 := hs1.size
  generalize laidN _ _ = M at hM hL
  obtain ⟨T, ht, hd⟩ := hL.ex
  have HT := Lib.hid ht
  have HD := Lib.hid hd
  have HM := Lib.hid hM
  have hszf : w.heap.size ≤ fb := by omega
  have hsw : Same (fun k => w.heap.size ≤ k) w w2 := hs02.mono (fun _ _ h => h.elim)
  clear ha hlen hs1 hs2 gp hf hfb hL ht hd hsz1 hs02 hM
  go_wp2
  go_loopw [14] (fun v14 wr => ∃ q : Nat, q < 16448 ∧ v14 = .int .i64 q ∧ ∃ M', MemAt wr f fb M' ∧ M.SameTab M' 0 T ∧ Same (fun k => w.heap.size ≤ k) w wr) (fun v14 _ => 16448 - (intOf v14).toNat)
  case atStart => exact ⟨0, by omega, rfl, M, HM.out, Mm.SameTab.refl _ _ _, hsw⟩
  case round =>
    obtain ⟨q, hq, rfl, M', hM', hst, hsj⟩ := hrel
    have HST := Lib.hid hst
    have hszj := hsj.size
    by_cases hj2 : q < 16384
    · have hcv := run_convert_bytes_back (P := Try.prog) (wr.alloc (.cells #[.int .u8 ((q : Int) / 64), .int .u8 ((q : Int) / 256)] 5)) 66 9 5 ⟨wr.heap.size, 0, none⟩ 2
        [UInt8.ofNat (q / 64), UInt8.ofNat (q / 256)] Try.underlying66 Try.underlying5 Try.underlying9 (by
          intro j hj
          have e0 : ((UInt8.ofNat (q / 64)).toNat : Int) = (q : Int) / 64 := by simp; omega
          have e1 : ((UInt8.ofNat (q / 256)).toNat : Int) = (q : Int) / 256 := by simp; omega
          match j, hj with
          | 0, _ => simp only [List.getElem_cons_zero, e0]; simp [Addr.add]
          | 1, _ => simp only [List.getElem_cons_succ, List.getElem_cons_zero, e1]; simp [Addr.add])
      have hs1 : Same (fun _ => False) wr (wr.alloc (.cells #[.int .u8 ((q : Int) / 64), .int .u8 ((q : Int) / 256)] 5)) := same_alloc _
      simp only [List.length_cons, List.length_nil, Nat.zero_add, Nat.reduceAdd] at hcv
      have ho := out_c (hM'.same0 hs1) (hst.tree HT.out) (HD.out.same hst HT.out) q ⟨#[UInt8.ofNat (q / 64), UInt8.ofNat (q / 256)]⟩ (by constructor <;> omega) (by simp [ByteArray.size])
      rw [show ((0 : Nat) : Int) = 0 from rfl] at ho
      have HO := Lib.hid ho
      clear hM' hst ho
      have hfacts : (0 : Int) ≤ q / 64 ∧ (q : Int) / 64 < 256 ∧ (0 : Int) ≤ q / 256 ∧ (q : Int) / 256 < 256 := by omega
      obtain ⟨x1, x2, x3, x4⟩ := hfacts
      have hqi : (q : Int) < 16384 := by omega
      generalize hq1 : (q : Int) / 64 = q1 at hcv HO hs1 x1 x2
      generalize hq2 : (q : Int) / 256 = q2 at hcv HO hs1 x3 x4
      go_wp2_with fail
      refine HO.out.mono ?_
      rintro e w3 ⟨er, M3, rfl, -, hM3, h3, hs3⟩
      have hst3 : M.SameTab M3 0 T := by
        rcases h3 with ⟨_, rfl⟩ | ⟨_, _, h⟩
        · exact HST.out
        · exact HST.out.trans h.tab
      have hs4 : Same (fun k => w.heap.size ≤ k) w w3 := (hsj.trans (hs1.mono (fun _ _ h => h.elim))).trans (hs3.mono (fun k _ h => by omega))
      have HM3 := Lib.hid hM3
      have HST3 := Lib.hid hst3
      clear h3 hst3 hM3 HO HST hs3 hs1 hsj hcv
      go_wp2
      go_round
      case rel => exact ⟨q + 64, by omega, by go_num, M3, HM3.out, HST3.out, hs4⟩
      case measure => simp [intOf]; omega
    · have hfo : FramesOk M' 0 := (HD.out.same hst HT.out).ok
      have hsE : Same (fun _ => False) w wr := Same.trans' (Same.refl _ w) hsj (fun b hb hbw => by omega)
      have C1 := Lib.hid (in_c hM' 0 addr n hia hin hfo)
      have HF := Lib.hid hfo
      have hqi : ¬ ((q : Int) < 16384) := by omega
      have hMr := hM'
      clear hM' hst hsj hfo HST
      go_wp2_with fail
      refine C1.out.mono ?_
      rintro e w3 ⟨e1, s1, rfl, h1, hs3⟩
      have hs03 := hsE.trans hs3
      have hM3 := hMr.same0 hs3
      clear C1 hs3 hsE hMr
      by_cases he : e1 = 0
      · subst he
        by_cases hk0 : k < 0
        · clear h1 HF HT HD HM
          go_wp2
          go_ret
          exact ⟨rfl, hs03⟩
        by_cases hk1 : n < k
        · clear h1 HF HT HD HM
          go_wp2
          go_ret
          exact ⟨rfl, hs03⟩
        obtain ⟨-, z0, z1, z2, z3, -⟩ := chk_zero h1.1
        have H1 := Lib.hid h1
        have C2 := Lib.hid (in_c hM3 0 addr k hia hik HF.out)
        clear h1
        go_wp2_with fail
        refine C2.out.mono ?_
        rintro e w4 ⟨e2, s2, rfl, h2, hs4⟩
        have hs04 := hs03.trans hs4
        have hM4 := hM3.same0 hs4
        obtain rfl := chk_sub (fr := 0) H1.out.1 (by omega) (by omega) (by omega) (by rw [Int.add_zero]; exact h2.1)
        have H2 := Lib.hid h2
        have C3 := Lib.hid (in_c hM4 0 (addr + k) (n - k) (by constructor <;> omega) (by constructor <;> omega) HF.out)
        clear h2 C2 hs4 hs03 hM3
        go_wp2_with fail
        refine C3.out.mono ?_
        rintro e w5 ⟨e3, s3, rfl, h3, hs5⟩
        have hs05 := hs04.trans hs5
        obtain rfl := chk_sub (fr := k) H1.out.1 (by omega) (by omega) (by omega) h3.1
        obtain ⟨hsum, hlen, hsz⟩ := parts_law H1.out H2.out h3 (by omega) (by omega) z0
        have hadd : ∀ w, (Op.stringOp .add s2 s3).run Try.prog w = .ok (.string s1) w := by
          intro w; rw [run_string_add_sum w _ _ hsz, hsum]
        clear h3 C3 hs5 hs04 hM4 H1 H2 HF HT HD HM
        have hl : (((s2.size : Int) + (s3.size : Int)) == n) = true := by
          rw [beq_iff_eq]
          rw [hsum, ByteArray.size_append] at hlen
          omega
        go_wp2
        go_ret
        exact ⟨by rw [← hl]; rfl, hs05⟩
      · have hse : s1 = ⟨#[]⟩ := by
          rcases h1.2 with ⟨_, h⟩ | ⟨h, _⟩
          · exact h
          · exact absurd h he
        subst hse
        clear h1 HF HT HD HM
        go_wp2
        go_ret
        exact ⟨rfl, hs03⟩
end Go.Proofs.Ytlbgnmcjdmdjpaa
