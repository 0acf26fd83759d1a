/- A frame read whole, in both memories. Conditions: their form. -/
import Derived.Test.YtlbgnmcjdmdjpaaRp
namespace Go.Proofs.Ytlbgnmcjdmdjpaa
open Go.RowKit Go.Shelf
/-- What reading a whole frame tells. -/
def Mm.whole (M : Mm) (t : Int) : ByteArray := if M.isUsed t then M.str t.toNat 0 64 else ByteArray.empty
theorem read64_any {w : World} {f fb : Nat} {M : Mm} (h : MemAt w f fb M) (t : Int) :
    Calls Try.prog 35 #[.pointer (some ⟨f, 0, none⟩), .int .i64 t, .int .i64 0, .int .i64 64] w fun e w' => e = .returned (.tuple #[.string (M.whole t), .int .i64 (if M.isUsed t then 0 else 10)]) ∧ Same (fun _ => False) w w' := by
  cases hu : M.isUsed t with
  | false =>
    refine (read_bad h t 0 64 hu).mono ?_
    rintro e w' ⟨rfl, hs⟩
    refine ⟨?_, hs⟩
    unfold Mm.whole
    rw [hu]
    rfl
  | true =>
    obtain ⟨k, rfl, hk, hR⟩ := Mm.used_iff hu
    refine (read_ok h k 0 64 hk hR (by omega) (by omega)).mono ?_
    rintro e w' ⟨rfl, hs⟩
    refine ⟨?_, hs⟩
    unfold Mm.whole
    rw [hu]
    rfl
theorem rread64_any {w : World} {r rb rr : Nat} {M : Mm} (h : RefAt w r rb rr M) (t : Int) :
    Calls Try.prog 36 #[.pointer (some ⟨r, 0, none⟩), .int .i64 t, .int .i64 0, .int .i64 64] w fun e w' => e = .returned (.tuple #[.string (M.whole t), .int .i64 (if M.isUsed t then 0 else 10)]) ∧ w = w' := by
  cases hu : M.isUsed t with
  | false =>
    refine (rread_bad h t 0 64 hu).mono ?_
    rintro e w' ⟨rfl, hs⟩
    refine ⟨?_, hs⟩
    unfold Mm.whole
    rw [hu]
    rfl
  | true =>
    obtain ⟨k, rfl, hk, hR⟩ := Mm.used_iff hu
    refine (rread_ok h k 0 64 hk hR (by omega)).mono ?_
    rintro e w' ⟨rfl, hs⟩
    refine ⟨?_, hs⟩
    unfold Mm.whole
    rw [hu]
    rfl
end Go.Proofs.Ytlbgnmcjdmdjpaa
