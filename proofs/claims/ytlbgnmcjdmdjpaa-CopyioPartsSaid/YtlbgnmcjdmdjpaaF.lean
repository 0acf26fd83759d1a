import Derived.Test.YtlbgnmcjdmdjpaaE
namespace Go.Proofs.Ytlbgnmcjdmdjpaa
open Go.RowKit Go.Shelf
attribute [local go_sem] Oper.semAt_some

def Mm.put (M : Mm) (t : Int) (i fl fr : Nat) : Mm := if M.isUsed t then M.wr t.toNat (4 * i) ⟨#[UInt8.ofNat fl, 0, UInt8.ofNat (fr / 256), UInt8.ofNat fr]⟩ else M

set_option maxHeartbeats 1600000 in
set_option maxRecDepth 8192 in
theorem put_any {w : World} {f fb : Nat} {M : Mm} (h : MemAt w f fb M) (t : Int) (i fl fr : Nat) (hi : i < 16) (hfl : fl < 256) (hfr : fr < 65536) :
    Calls Try.prog 64 #[.pointer (some ⟨f, 0, none⟩), .int .i64 t, .int .i64 i, .agg #[.int .i64 fl, .int .i64 fr]] w fun e w' => e = .returned (.tuple #[]) ∧ MemAt w' f fb (M.put t i fl fr) ∧ Same (· = fb) w w' := by
  have hcv := run_convert_bytes_back (P := Try.prog) ((w.alloc (.cells #[.int .i64 fl, .int .i64 fr] 108)).alloc (.cells #[.int .u8 fl, .int .u8 0, .int .u8 ((fr : Int) / 256), .int .u8 ((fr : Int) % 256)] 5)) 66 9 5 ⟨w.heap.size + 1, 0, none⟩ 4
    [UInt8.ofNat fl, 0, UInt8.ofNat (fr / 256), UInt8.ofNat fr] Try.underlying66 Try.underlying5 Try.underlying9 (by
      intro j hj
      have e0 : ((UInt8.ofNat fl).toNat : Int) = fl := by simp; omega
      have e2 : ((UInt8.ofNat (fr / 256)).toNat : Int) = (fr : Int) / 256 := by simp; omega
      have e3 : ((UInt8.ofNat fr).toNat : Int) = (fr : Int) % 256 := by simp
      match j, hj with
      | 0, _ => simp only [List.getElem_cons_zero, e0]; simp [Addr.add]
      | 1, _ => simp [Addr.add]
      | 2, _ => simp only [List.getElem_cons_succ, List.getElem_cons_zero, e2]; simp [Addr.add]
      | 3, _ => simp only [List.getElem_cons_succ, List.getElem_cons_zero, e3]; simp [Addr.add])
  have hs1 : Same (fun _ => False) w ((w.alloc (.cells #[.int .i64 fl, .int .i64 fr] 108)).alloc (.cells #[.int .u8 fl, .int .u8 0, .int .u8 ((fr : Int) / 256), .int .u8 ((fr : Int) % 256)] 5)) := (same_alloc _).alloc _
  simp only [List.length_cons, List.length_nil, Nat.zero_add, Nat.reduceAdd] at hcv
  have hM1 := h.same0 hs1
  have hii : ((4 * i : Nat) : Int) = 4 * (i : Int) := by omega
  cases hu : M.isUsed t with
  | false =>
    have hwr := write_bad hM1 t ((4 * i : Nat) : Int) ⟨#[UInt8.ofNat fl, 0, UInt8.ofNat (fr / 256), UInt8.ofNat fr]⟩ hu
    rw [hii] at hwr
    go_enter Try.func64, Try.ntmps64
    go_wp2_with fail
    refine (hwr).mono ?_
    rintro e w' ⟨rfl, hs⟩
    go_wp2
    go_end0
    exact ⟨rfl, by simp only [Mm.put, hu]; exact hM1.same0 hs, (hs1.trans hs).mono (fun _ _ h => h.elim)⟩
  | true =>
    obtain ⟨k, rfl, hk, hR⟩ := Mm.used_iff hu
    have hwr := write_ok hM1 k (4 * i) ⟨#[UInt8.ofNat fl, 0, UInt8.ofNat (fr / 256), UInt8.ofNat fr]⟩ hk hR (by omega) (by simp [ByteArray.size]; omega)
    rw [hii] at hwr
    go_enter Try.func64, Try.ntmps64
    go_wp2_with fail
    refine (hwr).mono ?_
    rintro e w' ⟨rfl, hM, hs⟩
    go_wp2
    go_end0
    exact ⟨rfl, by simp only [Mm.put, hu, if_true, Int.toNat_natCast]; exact hM, (hs1.mono (fun _ _ h => h.elim)).trans hs⟩
end Go.Proofs.Ytlbgnmcjdmdjpaa
