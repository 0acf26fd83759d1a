import Derived.Test.YtlbgnmcjdmdjpaaSl
import Derived.Test.YtlbgnmcjdmdjpaaH
namespace Go.Proofs.Ytlbgnmcjdmdjpaa
open Go.RowKit
theorem arr4 {cs : Array Value} {a b c d : Value} (h : cs.size = 4) (h0 : cs.toList[0]? = some a) (h1 : cs.toList[1]? = some b) (h2 : cs.toList[2]? = some c) (h3 : cs.toList[3]? = some d) : cs = #[a, b, c, d] := by
  obtain ⟨l⟩ := cs
  match l, h with
  | [x0, x1, x2, x3], _ => simp_all
theorem in64 {p : Int} (h : (Lit.int .i64 p).wf = true) : In64 p := by
  simp [Lit.wf, IntKind.min, IntKind.max, IntKind.signed, IntKind.bits] at h
  unfold In64; omega
end Go.Proofs.Ytlbgnmcjdmdjpaa
