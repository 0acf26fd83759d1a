/- strings.Join by the shelf's contract, laid at this dump; a world below which nothing is another. Conditions: the lengths' bounds. -/
import Derived.Shelf.Strings.OnBuilder
import Derived.Test.YtlbgnmcjdmdjpaaLib
import Derived.Test.YtlbgnmcjdmdjpaaRows
import Derived.Lib.Hide
namespace Go.Proofs
open Go.Shelf
def Try.lays156_ren : Go.Shelf.Ren := ⟨fun | 156 => 108 | 165 => 121 | 166 => 122 | 169 => 123 | 240 => 136 | 241 => 137 | 276 => 143 | 277 => 144 | n => n, fun | 31 => 120 | 9 => 9 | 3 => 3 | 4 => 4 | 0 => 0 | 20 => 20 | 72 => 189 | 76 => 192 | 70 => 187 | 37 => 66 | 75 => 191 | 127 => 209 | 164 => 216 | 5 => 5 | 80 => 194 | n => n, fun | n => n⟩
theorem Try.lays156 : Go.Proofs.Lays.n156 Try.prog Try.lays156_ren := {
  mixed := by kernel_rfl
  f156 := Try.func108.trans (congrArg some (by kernel_rfl))
  f165 := Try.func121.trans (congrArg some (by kernel_rfl))
  f166 := Try.func122.trans (congrArg some (by kernel_rfl))
  f169 := Try.func123.trans (congrArg some (by kernel_rfl))
  f240 := Try.func136.trans (congrArg some (by kernel_rfl))
  f241 := Try.func137.trans (congrArg some (by kernel_rfl))
  f276 := Try.func143.trans (congrArg some (by kernel_rfl))
  f277 := Try.func144.trans (congrArg some (by kernel_rfl))
  t0 := Try.underlying0
  a0 := Try.isAgg0
  z0 := Try.sizeOf0
  v0 := Try.zeroValue0
  t3 := Try.underlying3
  a3 := Try.isAgg3
  z3 := Try.sizeOf3
  v3 := Try.zeroValue3
  t4 := Try.underlying4
  a4 := Try.isAgg4
  z4 := Try.sizeOf4
  v4 := Try.zeroValue4
  t9 := Try.underlying9
  a9 := Try.isAgg9
  z9 := Try.sizeOf9
  v9 := Try.zeroValue9
  t20 := Try.underlying20
  a20 := Try.isAgg20
  z20 := Try.sizeOf20
  v20 := Try.zeroValue20
  t31 := Try.underlying120
  a31 := Try.isAgg120
  z31 := Try.sizeOf120
  v31 := Try.zeroValue120
  t37 := Try.underlying66
  a37 := Try.isAgg66
  z37 := Try.sizeOf66
  v37 := Try.zeroValue66
  t70 := Try.underlying187
  a70 := Try.isAgg187
  z70 := Try.sizeOf187
  v70 := Try.zeroValue187
  t72 := Try.underlying189
  a72 := Try.isAgg189
  z72 := Try.sizeOf189
  v72 := Try.zeroValue189
  t75 := Try.underlying191
  a75 := Try.isAgg191
  z75 := Try.sizeOf191
  v75 := Try.zeroValue191
  t76 := Try.underlying192
  a76 := Try.isAgg192
  z76 := Try.sizeOf192
  v76 := Try.zeroValue192
  t127 := Try.underlying209
  a127 := Try.isAgg209
  z127 := Try.sizeOf209
  v127 := Try.zeroValue209
  t164 := Try.underlying216
  a164 := Try.isAgg216
  z164 := Try.sizeOf216
  v164 := Try.zeroValue216 }
theorem Try.Builder_Extra_156 : Builder.Extra Try.prog Try.lays156_ren := {
  sizeBuilder := by kernel_rfl
  liesBuilder := by kernel_rfl
  t5 := Try.underlying5
  a5 := Try.isAgg5
  z5 := Try.sizeOf5
  v5 := Try.zeroValue5
  infoByte := by kernel_rfl
  cellsByte := by kernel_rfl
  sizeByte := by kernel_rfl
  neB5 := by decide }
open Go.RowKit in
/-- No element: the empty string; the world is as it was. (Whatever the slice's address and capacity: a nil slice too.) (LAID: no walk: one application.) -/
theorem Try.strings_Join_none (a : Option Addr) (c : Nat) (sep : ByteArray) (w : World) :
    Calls Try.prog 108 #[.slice a 0 c, .string sep] w fun e w' => e = .returned (.string ⟨#[]⟩) ∧ w' = w := Any.strings_Join_none Try.lays156 Try.Builder_Extra_156 a c sep w
open Go.RowKit in
/-- strings.Join: "Join concatenates the elements of its first argument to create a single string. The separator string sep is placed between elements in the resulting string.": HOWEVER MANY ELEMENTS. Below the heap's end the world is as it was. (LAID: no walk: one application.) -/
theorem Try.strings_Join (bk o c : Nat) (xs : List ByteArray) (sep : ByteArray) (w : World) (hcells : ∀ (j : Nat) x, xs[j]? = some x → w.cell? ⟨bk, o + j, none⟩ = some (.string x)) (hbk : bk < w.heap.size) (hN : xs.length ≤ 140737488355328) (hcap : xs.length ≤ c) (hlen : (Lib.join (xs.map (·.data.toList)) sep.data.toList).length ≤ 140737488355328) :
    Calls Try.prog 108 #[.slice (some ⟨bk, o, none⟩) xs.length c, .string sep] w fun e w' => e = .returned (.string ⟨(Lib.join (xs.map (·.data.toList)) sep.data.toList).toArray⟩) ∧ Below w.heap.size w w' := Any.strings_Join Try.lays156 Try.Builder_Extra_156 bk o c xs sep w hcells hbk hN hcap hlen
end Go.Proofs
namespace Go.Proofs.Ytlbgnmcjdmdjpaa
open Go.RowKit Go.Shelf
theorem same_of_below {w w' : World} (h : Below w.heap.size w w') : Same (fun _ => False) w w' :=
  ⟨h.os, h.tape, h.output, h.size, fun k hk _ => h.block k hk, fun k hk => by unfold World.shape?; rw [h.block k hk]⟩
theorem join_nil : ∀ l : List (List UInt8), Lib.join l [] = l.flatten
  | [] => rfl
  | [x] => by simp [Lib.join]
  | x :: y :: l => by
    rw [Lib.join_cons, Lib.joinTail]
    simp
/-- joined texts. -/
def cat (l : List ByteArray) : ByteArray := ⟨(l.map (·.data.toList)).flatten.toArray⟩
theorem joined_any {w : World} {v : Value} {xs : List ByteArray} (h : (v = .slice none 0 0 ∧ xs = []) ∨ ∃ g cap, v = .slice (some ⟨g, 0, none⟩) xs.length cap ∧ xs.length ≤ cap ∧ g < w.heap.size ∧ ∀ (j : Nat) x, xs[j]? = some x → w.cell? ⟨g, j, none⟩ = some (.string x))
    (hn : xs.length ≤ 1000000) (hl : ((xs.map (·.data.toList)).flatten).length ≤ 1000000) :
    Calls Try.prog 78 #[v] w fun e w' => e = .returned (.string (cat xs)) ∧ Same (fun _ => False) w w' := by
  rcases h with ⟨rfl, rfl⟩ | ⟨g, cap, rfl, h1, h2, h3⟩
  · go_enter Try.func78, Try.ntmps78
    go_wp2_with fail
    refine (Try.strings_Join_none none 0 ⟨#[]⟩ _).mono ?_
    rintro e w' ⟨rfl, rfl⟩
    go_wp2
    go_ret
    exact ⟨rfl, Same.refl _ _⟩
  · have hj := Try.strings_Join g 0 cap xs ⟨#[]⟩ w (fun j x hx => by rw [Nat.zero_add]; exact h3 j x hx) h2 (by omega) h1 (by
      show (Lib.join _ []).length ≤ _
      rw [join_nil]; omega)
    have e : (⟨(Lib.join (xs.map (·.data.toList)) (⟨#[]⟩ : ByteArray).data.toList).toArray⟩ : ByteArray) = cat xs := by
      show (⟨(Lib.join (xs.map (·.data.toList)) []).toArray⟩ : ByteArray) = _
      rw [join_nil]; rfl
    rw [e] at hj
    clear e
    have HJ := Lib.hid hj
    generalize cat xs = R at HJ ⊢
    clear hj h3
    go_enter Try.func78, Try.ntmps78
    go_wp2_with fail
    refine HJ.out.mono ?_
    rintro e w' ⟨rfl, hb⟩
    go_wp2
    go_ret
    exact ⟨rfl, same_of_below hb⟩
end Go.Proofs.Ytlbgnmcjdmdjpaa
