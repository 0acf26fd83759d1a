/- strings.Join by the shelf's contract, laid at this dump; a world below which nothing is another. Conditions: the lengths' bounds.
The parts of a span: the iterator. Conditions: bounds.
Something done with a span's parts. Conditions: what is done keeps its own account.
copyio.Check. Conditions: the memory's form.
copyio.In. Conditions: the memory's form; mapped pages have frames in use.
copyio.In and Out. Conditions: the memory's form; mapped pages have frames in use.
copyio.Out. Conditions: the memory's form; mapped pages have frames in use, each its own, and none is the root's or a table's.
copyio.Out. Conditions: the memory's form; mapped pages have frames in use, each its own, and none is the root's or a table's.
A memory of sixty frames with pages mapped, each to a frame of its own: the plain law. Conditions: none.
The statements' own laying of pages. Conditions: the arguments' form.
copyio.Spans; the statements' own shown. Conditions: bounds.
The walk of CopyioLess. Conditions: the arguments' form.
The walk of CopyioBack. Conditions: the arguments' form. -/
import Derived.Shelf.Strings.OnBuilder
import Derived.Test.YtlbgnmcjdmdjpaaK1
import Derived.Test.YtlbgnmcjdmdjpaaRows
import Derived.Lib.Hide
import Derived.Test.YtlbgnmcjdmdjpaaK2
import Derived.BigRegion
import Derived.Laws.Small
import Derived.StillTailTactics
import Derived.Laws.DeepStrings4
set_option linter.unusedSimpArgs false
set_option linter.unusedVariables false
namespace Go.Proofs
open Go.Shelf
def Try.lays156_ren : Go.Shelf.Ren := ⟨fun | 156 => 108 | 165 => 121 | 166 => 122 | 169 => 123 | 240 => 136 | 241 => 137 | 276 => 143 | 277 => 144 | n => n, fun | 31 => 120 | 9 => 9 | 3 => 3 | 4 => 4 | 0 => 0 | 20 => 20 | 72 => 189 | 76 => 192 | 70 => 187 | 37 => 66 | 75 => 191 | 127 => 209 | 164 => 216 | 5 => 5 | 80 => 194 | n => n, fun | n => n⟩
theorem Try.lays156 : Go.Proofs.Lays.n156 Try.prog Try.lays156_ren := {
  mixed := by kernel_rfl
  f156 := Try.func108.trans (congrArg some (by kernel_rfl))
  f165 := Try.func121.trans (congrArg some (by kernel_rfl))
  f166 := Try.func122.trans (congrArg some (by kernel_rfl))
  f169 := Try.func123.trans (congrArg some (by kernel_rfl))
  f240 := Try.func136.trans (congrArg some (by kernel_rfl))
  f241 := Try.func137.trans (congrArg some (by kernel_rfl))
  f276 := Try.func143.trans (congrArg some (by kernel_rfl))
  f277 := Try.func144.trans (congrArg some (by kernel_rfl))
  t0 := Try.underlying0
  a0 := Try.isAgg0
  z0 := Try.sizeOf0
  v0 := Try.zeroValue0
  t3 := Try.underlying3
  a3 := Try.isAgg3
  z3 := Try.sizeOf3
  v3 := Try.zeroValue3
  t4 := Try.underlying4
  a4 := Try.isAgg4
  z4 := Try.sizeOf4
  v4 := Try.zeroValue4
  t9 := Try.underlying9
  a9 := Try.isAgg9
  z9 := Try.sizeOf9
  v9 := Try.zeroValue9
  t20 := Try.underlying20
  a20 := Try.isAgg20
  z20 := Try.sizeOf20
  v20 := Try.zeroValue20
  t31 := Try.underlying120
  a31 := Try.isAgg120
  z31 := Try.sizeOf120
  v31 := Try.zeroValue120
  t37 := Try.underlying66
  a37 := Try.isAgg66
  z37 := Try.sizeOf66
  v37 := Try.zeroValue66
  t70 := Try.underlying187
  a70 := Try.isAgg187
  z70 := Try.sizeOf187
  v70 := Try.zeroValue187
  t72 := Try.underlying189
  a72 := Try.isAgg189
  z72 := Try.sizeOf189
  v72 := Try.zeroValue189
  t75 := Try.underlying191
  a75 := Try.isAgg191
  z75 := Try.sizeOf191
  v75 := Try.zeroValue191
  t76 := Try.underlying192
  a76 := Try.isAgg192
  z76 := Try.sizeOf192
  v76 := Try.zeroValue192
  t127 := Try.underlying209
  a127 := Try.isAgg209
  z127 := Try.sizeOf209
  v127 := Try.zeroValue209
  t164 := Try.underlying216
  a164 := Try.isAgg216
  z164 := Try.sizeOf216
  v164 := Try.zeroValue216 }
theorem Try.Builder_Extra_156 : Builder.Extra Try.prog Try.lays156_ren := {
  sizeBuilder := by kernel_rfl
  liesBuilder := by kernel_rfl
  t5 := Try.underlying5
  a5 := Try.isAgg5
  z5 := Try.sizeOf5
  v5 := Try.zeroValue5
  infoByte := by kernel_rfl
  cellsByte := by kernel_rfl
  sizeByte := by kernel_rfl
  neB5 := by decide }
open Go.RowKit in
/-- No element: the empty string; the world is as it was. (Whatever the slice's address and capacity: a nil slice too.) (LAID: no walk: one application.) -/
theorem Try.strings_Join_none (a : Option Addr) (c : Nat) (sep : ByteArray) (w : World) :
    Calls Try.prog 108 #[.slice a 0 c, .string sep] w fun e w' => e = .returned (.string ⟨#[]⟩) ∧ w' = w := Any.strings_Join_none Try.lays156 Try.Builder_Extra_156 a c sep w
open Go.RowKit in
/-- strings.Join: "Join concatenates the elements of its first argument to create a single string. The separator string sep is placed between elements in the resulting string.": HOWEVER MANY ELEMENTS. Below the heap's end the world is as it was. (LAID: no walk: one application.) -/
theorem Try.strings_Join (bk o c : Nat) (xs : List ByteArray) (sep : ByteArray) (w : World) (hcells : ∀ (j : Nat) x, xs[j]? = some x → w.cell? ⟨bk, o + j, none⟩ = some (.string x)) (hbk : bk < w.heap.size) (hN : xs.length ≤ 140737488355328) (hcap : xs.length ≤ c) (hlen : (Lib.join (xs.map (·.data.toList)) sep.data.toList).length ≤ 140737488355328) :
    Calls Try.prog 108 #[.slice (some ⟨bk, o, none⟩) xs.length c, .string sep] w fun e w' => e = .returned (.string ⟨(Lib.join (xs.map (·.data.toList)) sep.data.toList).toArray⟩) ∧ Below w.heap.size w w' := Any.strings_Join Try.lays156 Try.Builder_Extra_156 bk o c xs sep w hcells hbk hN hcap hlen
end Go.Proofs
namespace Go.Proofs.Ytlbgnmcjdmdjpaa
open Go.RowKit Go.Shelf
theorem same_of_below {w w' : World} (h : Below w.heap.size w w') : Same (fun _ => False) w w' :=
  ⟨h.os, h.tape, h.output, h.size, fun k hk _ => h.block k hk, fun k hk => by unfold World.shape?; rw [h.block k hk]⟩
theorem join_nil : ∀ l : List (List UInt8), Lib.join l [] = l.flatten
  | [] => rfl
  | [x] => by simp [Lib.join]
  | x :: y :: l => by
    rw [Lib.join_cons, Lib.joinTail]
    simp
/-- joined texts. -/
def cat (l : List ByteArray) : ByteArray := ⟨(l.map (·.data.toList)).flatten.toArray⟩
theorem joined_any {w : World} {v : Value} {xs : List ByteArray} (h : (v = .slice none 0 0 ∧ xs = []) ∨ ∃ g cap, v = .slice (some ⟨g, 0, none⟩) xs.length cap ∧ xs.length ≤ cap ∧ g < w.heap.size ∧ ∀ (j : Nat) x, xs[j]? = some x → w.cell? ⟨g, j, none⟩ = some (.string x))
    (hn : xs.length ≤ 1000000) (hl : ((xs.map (·.data.toList)).flatten).length ≤ 1000000) :
    Calls Try.prog 78 #[v] w fun e w' => e = .returned (.string (cat xs)) ∧ Same (fun _ => False) w w' := by
  rcases h with ⟨rfl, rfl⟩ | ⟨g, cap, rfl, h1, h2, h3⟩
  · go_enter Try.func78, Try.ntmps78
    go_wp2_with fail
    refine (Try.strings_Join_none none 0 ⟨#[]⟩ _).mono ?_
    rintro e w' ⟨rfl, rfl⟩
    go_wp2
    go_ret
    exact ⟨rfl, Same.refl _ _⟩
  · have hj := Try.strings_Join g 0 cap xs ⟨#[]⟩ w (fun j x hx => by rw [Nat.zero_add]; exact h3 j x hx) h2 (by omega) h1 (by
      show (Lib.join _ []).length ≤ _
      rw [join_nil]; omega)
    have e : (⟨(Lib.join (xs.map (·.data.toList)) (⟨#[]⟩ : ByteArray).data.toList).toArray⟩ : ByteArray) = cat xs := by
      show (⟨(Lib.join (xs.map (·.data.toList)) []).toArray⟩ : ByteArray) = _
      rw [join_nil]; rfl
    rw [e] at hj
    clear e
    have HJ := Lib.hid hj
    generalize cat xs = R at HJ ⊢
    clear hj h3
    go_enter Try.func78, Try.ntmps78
    go_wp2_with fail
    refine HJ.out.mono ?_
    rintro e w' ⟨rfl, hb⟩
    go_wp2
    go_ret
    exact ⟨rfl, same_of_below hb⟩
end Go.Proofs.Ytlbgnmcjdmdjpaa
namespace Go.Proofs.Ytlbgnmcjdmdjpaa
open Go.RowKit Go.Shelf
attribute [local go_sem] Oper.semAt_some

theorem parts_any (w : World) (a n : Int) :
    Calls Try.prog 107 #[.int .i64 a, .int .i64 n] w fun e w' => e = .returned (.func (.func 120) #[] #[.pointer (some ⟨w.heap.size + 1, 0, none⟩), .pointer (some ⟨w.heap.size, 0, none⟩)]) ∧ w' = (w.alloc (.cells #[.int .i64 a] 3)).alloc (.cells #[.int .i64 n] 3) := by
  go_enter Try.func107, Try.ntmps107
  go_wp2
  go_ret
  exact ⟨rfl, rfl⟩
/-- The two boxes of what is left of a span. -/
def Bx (W : World) (ba bn a n : Nat) : Prop := W.cell? ⟨ba, 0, none⟩ = some (.int .i64 (a : Int)) ∧ W.cell? ⟨bn, 0, none⟩ = some (.int .i64 (n : Int)) ∧ W.frozen? ⟨ba, 0, none⟩ = false ∧ W.frozen? ⟨bn, 0, none⟩ = false
theorem Bx.same {W W' : World} {ba bn a n : Nat} {S : Nat → Prop} (h : Bx W ba bn a n) (hs : Same S W W') (h1 : ¬ S ba) (h2 : ¬ S bn) : Bx W' ba bn a n :=
  ⟨hs.cell h.1 h1, hs.cell h.2.1 h2, hs.unfrozen h.1 h.2.2.1 h1, hs.unfrozen h.2.1 h.2.2.2 h2⟩
theorem Bx.lt {W : World} {ba bn a n : Nat} (h : Bx W ba bn a n) : ba < W.heap.size ∧ bn < W.heap.size := ⟨World.block_lt_of_cell? _ _ h.1, World.block_lt_of_cell? _ _ h.2.1⟩
def pk (a n : Nat) : Nat := min n (64 - a % 64)
theorem pk_pos {a n : Nat} (h : 0 < n) : 0 < pk a n ∧ pk a n ≤ n ∧ a % 64 + pk a n ≤ 64 := by unfold pk; omega

set_option maxHeartbeats 3200000 in
set_option maxRecDepth 8192 in
theorem parts1 (l ba bn : Nat) (hne : ba ≠ bn) (I : Nat → Nat → World → Prop) (Jx : World → Prop)
    (hI : ∀ a n W W', I a n W → Same (fun b => b = ba ∨ b = bn) W W' → I a n W')
    (hy : ∀ a n W, 0 < n → a + n ≤ 20480 → Bx W ba bn a n → I a n W → YieldAt Fence.wide 0 Try.prog l #[.agg #[.int .i64 ((a : Int) / 64), .int .i64 ((a : Int) % 64), .int .i64 (pk a n)]] (W.alloc (.cells #[.int .i64 ((a : Int) / 64), .int .i64 ((a : Int) % 64), .int .i64 (pk a n)] 140)) fun e W' =>
      (e = .returned (.bool true) ∧ Bx W' ba bn a n ∧ I (a + pk a n) (n - pk a n) W' ∧ W'.cell? ⟨W.heap.size, 2, none⟩ = some (.int .i64 (pk a n))) ∨ (e = .returned (.bool false) ∧ Jx W'))
    (w : World) (a0 n0 : Nat) (h0 : I a0 n0 w) (hb : Bx w ba bn a0 n0) (hle : a0 + n0 ≤ 20480) :
    Calls Try.prog 120 #[.func (.yield l) #[] #[], .pointer (some ⟨bn, 0, none⟩), .pointer (some ⟨ba, 0, none⟩)] w fun e W => (∃ v, e = .returned v) ∧ ((∃ a, I a 0 W) ∨ Jx W) := by
  refine (callsIn_wide (n := 0)).1 ?_
  refine callsIn_of_wp Try.func120 rfl trivial ?_ rfl
  simp only [Try.ntmps120, List.size_toArray, List.length_cons, List.length_nil, Nat.reduceAdd, Nat.reduceSub, Array.replicate_succ, Array.replicate_zero, List.push_toArray, List.append_toArray, List.nil_append, List.cons_append]
  gi_wp2
  gi_loopw [4] (fun _ wr => ∃ a n : Nat, a + n ≤ 20480 ∧ Bx wr ba bn a n ∧ I a n wr) (fun _ wr => match wr.cell? ⟨bn, 0, none⟩ with | some (.int _ k) => k.toNat | _ => 0)
  case atStart => exact ⟨a0, n0, hle, hb, h0⟩
  case round =>
    obtain ⟨a, n, hle, hB, hJ⟩ := hrel
    have HB := Lib.hid hB
    have HJ := Lib.hid hJ
    obtain ⟨hl1, hl2⟩ := hB.lt
    obtain ⟨b1, b2, b3, b4⟩ := hB
    clear hJ
    by_cases hn : 0 < n
    · have hni : 0 < (n : Int) := by omega
      obtain ⟨k1, k2, k3⟩ := pk_pos (a := a) hn
      have hd : ((a : Int).tdiv 64) = ((a / 64 : Nat) : Int) := by rw [Int.tdiv_eq_ediv_of_nonneg (by omega)]; omega
      have hm : ((a : Int).tmod 64) = ((a % 64 : Nat) : Int) := by rw [Int.tmod_eq_emod_of_nonneg (by omega)]; omega
      have hmin : min (n : Int) (64 - (a : Int) % 64) = ((pk a n : Nat) : Int) := by unfold pk; omega
      have hyk := hy a n wr hn hle HB.out HJ.out
      obtain ⟨fn, tmps, assign, body, hye, hR⟩ := hyk
      have hpkn : ((pk a n : Nat) : Int) ≤ n := by omega
      have hpk0 : 0 ≤ ((pk a n : Nat) : Int) := by omega
      gi_wp2
      refine hR.mono ?_
      rintro e W3 (⟨rfl, hB3, hJ3, hp3⟩ | ⟨rfl, hJx3⟩)
      · obtain ⟨hm1, hm2⟩ := hB3.lt
        obtain ⟨d1, d2, d3, d4⟩ := hB3
        have HJ3 := Lib.hid hJ3
        have hmp := World.block_lt_of_cell? _ _ hp3
        clear hJ3 hR hye
        gi_wp2_with fail
        gi_region
        obtain ⟨W4, hW4⟩ : ∃ W4, W4 = ((W3.setCell ⟨ba, 0, none⟩ (.int .i64 ((a : Int) + (pk a n : Nat)))).setCell ⟨bn, 0, none⟩ (.int .i64 ((n : Int) - (pk a n : Nat)))).drew := ⟨_, rfl⟩
        have hs4 : Same (fun b => b = ba ∨ b = bn) W3 W4 := by rw [hW4]; exact (((Same.refl _ _).setCell _ (.inr (.inl rfl))).setCell _ (.inr (.inr rfl))).drew
        have e1 : W4.cell? ⟨ba, 0, none⟩ = some (.int .i64 ((a + pk a n : Nat) : Int)) := by
          rw [hW4]
          show ((W3.setCell _ _).setCell _ _).cell? _ = _
          rw [World.cell?_setCell_other _ _ _ _ (by simp <;> omega), World.cell?_setCell_same _ _ _ d1]
          rw [show ((a : Int) + ((pk a n : Nat) : Int)) = ((a + pk a n : Nat) : Int) by omega]
        have e2 : W4.cell? ⟨bn, 0, none⟩ = some (.int .i64 ((n - pk a n : Nat) : Int)) := by
          rw [hW4]
          show ((W3.setCell _ _).setCell _ _).cell? _ = _
          rw [World.cell?_setCell_same _ _ _ (by rw [World.cell?_setCell_other _ _ _ _ (by simp <;> omega)]; exact d2)]
          rw [show ((n : Int) - ((pk a n : Nat) : Int)) = ((n - pk a n : Nat) : Int) by omega]
        have e3 : W4.frozen? ⟨ba, 0, none⟩ = false := by rw [hW4]; simpa using d3
        have e4 : W4.frozen? ⟨bn, 0, none⟩ = false := by rw [hW4]; simpa using d4
        rw [← hW4]
        have HF := Lib.hid (And.intro (show Bx W4 ba bn (a + pk a n) (n - pk a n) from ⟨e1, e2, e3, e4⟩) (hI _ _ _ _ HJ3.out hs4))
        have E2 := Lib.hid e2
        have B2 := Lib.hid b2
        clear hW4 e1 e2 e3 e4 d1 d2 d3 d4 hs4 hp3 b1 b2 b3 b4 hmin
        gi_wp2
        go_roundw
        case rel => exact ⟨a + pk a n, n - pk a n, by omega, HF.out.1, HF.out.2⟩
        case measure => rw [E2.out, B2.out]; simp; omega
      · gi_wp2
        exact bodyPost_ret (results_none rfl _ _ _) rfl ⟨⟨_, rfl⟩, .inr hJx3⟩
    · obtain rfl : n = 0 := by omega
      gi_wp2
      exact bodyPost_end (results_none rfl _ _ _) rfl ⟨⟨_, rfl⟩, .inl ⟨a, HJ.out⟩⟩
end Go.Proofs.Ytlbgnmcjdmdjpaa
namespace Go.Proofs.Ytlbgnmcjdmdjpaa
open Go.RowKit Go.Shelf
attribute [local go_sem] Oper.semAt_some

set_option maxHeartbeats 6400000 in
set_option maxRecDepth 16384 in
theorem each_any (w : World) (f fb : Nat) (root : Int) (a0 n0 : Nat) (M0 : Mm) (hle : a0 + n0 ≤ 20480) (g : FuncId) (caps : Array Value)
    (heg : ∀ args w, (callFunc g args).run Try.prog w = .ok (.enter g args) w)
    (I : Nat → Nat → Nat → Mm → World → Prop) (X : Nat → Int → World → Prop)
    (hmem : ∀ hi a n M W, I hi a n M W → MemAt W f fb M)
    (hcl : ∀ hi a n M W W', I hi a n M W → Same (fun b => w.heap.size ≤ b ∧ b < hi) W W' → I hi a n M W')
    (hX : ∀ hi er W W', X hi er W → Same (fun b => w.heap.size ≤ b ∧ b < hi) W W' → X hi er W')
    (hfail : ∀ hi a n M W, 0 < n → I hi a n M W → (M.walk root ((a : Int) / 64)).2.2 ≠ 0 → X hi 30 W)
    (hdo : ∀ hi a n M W0 W, 0 < n → a + n ≤ 20480 → I hi a n M W0 → hi ≤ W0.heap.size → Same (fun b => w.heap.size ≤ b ∧ b < hi) W0 W → (M.walk root ((a : Int) / 64)).2.2 = 0 →
      Calls Try.prog g (#[.agg #[.int .i64 ((a : Int) / 64), .int .i64 ((a : Int) % 64), .int .i64 (pk a n)], .int .i64 (M.walk root ((a : Int) / 64)).1, .int .i64 (M.walk root ((a : Int) / 64)).2.1] ++ caps) W fun e W' =>
        ((e = .returned (.int .i64 0) ∧ ∃ M', I hi (a + pk a n) (n - pk a n) M' W') ∨ (∃ er, er ≠ 0 ∧ e = .returned (.int .i64 er) ∧ X hi er W')) ∧ Same (fun b => b < W0.heap.size ∧ (b < w.heap.size ∨ hi ≤ b)) W W')
    (hinit : ∀ W1, Same (fun _ => False) w W1 → I W1.heap.size a0 n0 M0 W1) :
    Calls Try.prog 76 #[.pointer (some ⟨f, 0, none⟩), .int .i64 root, .int .i64 a0, .int .i64 n0, .func (.func g) #[] caps] w fun e W =>
      (e = .returned (.int .i64 0) ∧ ∃ hi a M, I hi a 0 M W) ∨ (∃ er hi, er ≠ 0 ∧ e = .returned (.int .i64 er) ∧ X hi er W) := by
  have HMEM := Lib.hid @hmem
  have HCL := Lib.hid @hcl
  have HX := Lib.hid @hX
  have HFAIL := Lib.hid @hfail
  have HDO := Lib.hid @hdo
  have HINIT := Lib.hid @hinit
  have HEG := Lib.hid @heg
  clear hmem hcl hX hfail hdo hinit heg
  refine (callsIn_wide (n := 0)).1 ?_
  refine callsIn_of_wp_marks Try.func76 rfl trivial ?_ rfl
  simp only [Try.ntmps76, List.size_toArray, List.length_cons, List.length_nil, Nat.reduceAdd, Nat.reduceSub, Array.replicate_succ, Array.replicate_zero, List.push_toArray, List.append_toArray, List.nil_append, List.cons_append]
  gi_wp2
  refine wpIn_scope_straight ?_
  gi_wp2
  refine wpIn_label ?_
  gi_wp2_with (gi_at_call 107; refine CallsIn.mono (callsIn_wide.2 (parts_any _ _ _)) ?_; rintro e w' ⟨rfl, rfl⟩)
  refine range_wide2 (gf := 120) (lb := #[.pointer (some ⟨w.heap.size + 1 + 1 + 1 + 1 + 1, 0, none⟩), .pointer (some ⟨w.heap.size + 1 + 1 + 1 + 1, 0, none⟩)]) rfl (enters_of Try.func120 (by kernel_rfl) rfl) ?_
  intro rec D L W1 hD hL hrule hs1 hl1 hd1 hrec
  simp only [World.size_alloc] at hD
  have hcell : ∀ {b o : Nat} {v : Value}, ((((((w.alloc (.cells #[.pointer (some ⟨f, 0, none⟩)] 24)).alloc (.cells #[.int .i64 root] 3)).alloc (.cells #[.func (.func g) #[] caps] 141)).alloc (.cells #[.int .i64 0] 25)).alloc (.cells #[.int .i64 a0] 3)).alloc (.cells #[.int .i64 n0] 3)).cell? ⟨b, o, none⟩ = some v → W1.cell? ⟨b, o, none⟩ = some v :=
    fun h => hs1.cell h (fun h => h)
  have hfroz : ∀ {b o : Nat} {v : Value}, ((((((w.alloc (.cells #[.pointer (some ⟨f, 0, none⟩)] 24)).alloc (.cells #[.int .i64 root] 3)).alloc (.cells #[.func (.func g) #[] caps] 141)).alloc (.cells #[.int .i64 0] 25)).alloc (.cells #[.int .i64 a0] 3)).alloc (.cells #[.int .i64 n0] 3)).cell? ⟨b, o, none⟩ = some v →
      ((((((w.alloc (.cells #[.pointer (some ⟨f, 0, none⟩)] 24)).alloc (.cells #[.int .i64 root] 3)).alloc (.cells #[.func (.func g) #[] caps] 141)).alloc (.cells #[.int .i64 0] 25)).alloc (.cells #[.int .i64 a0] 3)).alloc (.cells #[.int .i64 n0] 3)).frozen? ⟨b, o, none⟩ = false → W1.frozen? ⟨b, o, none⟩ = false :=
    fun h h2 => hs1.unfrozen h h2 (fun h => h)
  have c0 : W1.cell? ⟨w.heap.size, 0, none⟩ = some (.pointer (some ⟨f, 0, none⟩)) := hcell (by simp [go_sem])
  have c1 : W1.cell? ⟨w.heap.size + 1, 0, none⟩ = some (.int .i64 root) := hcell (by simp [go_sem])
  have c2 : W1.cell? ⟨w.heap.size + 1 + 1, 0, none⟩ = some (.func (.func g) #[] caps) := hcell (by simp [go_sem])
  have c3 : W1.cell? ⟨w.heap.size + 1 + 1 + 1, 0, none⟩ = some (.int .i64 0) := hcell (by simp [go_sem])
  have c4 : W1.cell? ⟨w.heap.size + 1 + 1 + 1 + 1, 0, none⟩ = some (.int .i64 a0) := hcell (by simp [go_sem])
  have c5 : W1.cell? ⟨w.heap.size + 1 + 1 + 1 + 1 + 1, 0, none⟩ = some (.int .i64 n0) := hcell (by simp [go_sem])
  have z3 : W1.frozen? ⟨w.heap.size + 1 + 1 + 1, 0, none⟩ = false := hfroz (v := .int .i64 0) (by simp [go_sem]) (by simp [go_sem])
  have z4 : W1.frozen? ⟨w.heap.size + 1 + 1 + 1 + 1, 0, none⟩ = false := hfroz (v := .int .i64 a0) (by simp [go_sem]) (by simp [go_sem])
  have z5 : W1.frozen? ⟨w.heap.size + 1 + 1 + 1 + 1 + 1, 0, none⟩ = false := hfroz (v := .int .i64 n0) (by simp [go_sem]) (by simp [go_sem])
  have hsw : Same (fun _ => False) w W1 := ((((((same_alloc _).alloc _).alloc _).alloc _).alloc _).alloc _).trans hs1
  have hI0 := HINIT.out W1 hsw
  have hLW1 := (Array.getElem?_eq_some_iff.1 hl1).1
  have hDW1 := (Array.getElem?_eq_some_iff.1 hd1).1
  obtain ⟨hi, hhi⟩ : ∃ hi, hi = W1.heap.size := ⟨_, rfl⟩
  rw [← hhi] at hI0 hLW1 hDW1
  have HHI := Lib.hid hhi
  have hhi1 : hi ≤ W1.heap.size := by omega
  clear hcell hfroz hs1 hhi
  refine Calls.mono (parts1 L (w.heap.size + 1 + 1 + 1 + 1) (w.heap.size + 1 + 1 + 1 + 1 + 1) (by omega)
    (fun a n W => ∃ M, I hi a n M W ∧ W.cell? ⟨w.heap.size, 0, none⟩ = some (.pointer (some ⟨f, 0, none⟩)) ∧ W.cell? ⟨w.heap.size + 1, 0, none⟩ = some (.int .i64 root) ∧ W.cell? ⟨w.heap.size + 1 + 1, 0, none⟩ = some (.func (.func g) #[] caps) ∧
      W.cell? ⟨w.heap.size + 1 + 1 + 1, 0, none⟩ = some (.int .i64 0) ∧ W.frozen? ⟨w.heap.size + 1 + 1 + 1, 0, none⟩ = false ∧ W.heap[L]? = some (rec .ready none) ∧ W.heap[D]? = some (.deferred (some [])) ∧ hi ≤ W.heap.size)
    (fun W => ∃ er, er ≠ 0 ∧ X hi er W ∧ W.cell? ⟨w.heap.size + 1 + 1 + 1, 0, none⟩ = some (.int .i64 er) ∧ W.heap[L]? = some (rec .done (some (.exit 0))) ∧ W.heap[D]? = some (.deferred (some [])))
    ?_ ?_ W1 a0 n0 ⟨M0, hI0, c0, c1, c2, c3, z3, hl1, hd1, hhi1⟩ ⟨c4, c5, z4, z5⟩ hle) ?_
  · rintro a n W W' ⟨M, h1, h2, h3, h4, h5, h6, h7, h8, h9⟩ hs
    exact ⟨M, HCL.out _ _ _ _ _ _ h1 (hs.mono (fun b hb h => by omega)), hs.cell h2 (by simp <;> omega), hs.cell h3 (by simp <;> omega), hs.cell h4 (by simp <;> omega), hs.cell h5 (by simp <;> omega), hs.unfrozen h5 h6 (by simp <;> omega), hs.block h7 (by omega), hs.block h8 (by omega), by have := hs.size; omega⟩
  · rintro a n W hn hle2 hB ⟨M, h1, h2, h3, h4, h5, h6, h7, h8, h9⟩
    have hA : Same (fun _ => False) W (W.alloc (.cells #[.int .i64 ((a : Int) / 64), .int .i64 ((a : Int) % 64), .int .i64 (pk a n)] 140)) := same_alloc _
    have hp2 : (W.alloc (.cells #[.int .i64 ((a : Int) / 64), .int .i64 ((a : Int) % 64), .int .i64 (pk a n)] 140)).cell? ⟨W.heap.size, 2, none⟩ = some (.int .i64 (pk a n)) := by simp
    obtain ⟨VA, hVA⟩ : ∃ VA, VA = W.alloc (.cells #[.int .i64 ((a : Int) / 64), .int .i64 ((a : Int) % 64), .int .i64 (pk a n)] 140) := ⟨_, rfl⟩
    have hszA : VA.heap.size = W.heap.size + 1 := by rw [hVA]; simp
    rw [← hVA] at hA hp2 ⊢
    have hl7 := hA.block h7 (fun h => h)
    have HVA := Lib.hid hszA
    have hWA : W.heap.size < VA.heap.size := by omega
    have HI := Lib.hid h1
    clear hVA hszA h1
    refine hrule VA _ _ hl7 rfl ?_
    gi_wp2
    have hB2 : Same (fun _ => False) VA (VA.alloc (.cells #[.int .i64 ((a : Int) / 64), .int .i64 ((a : Int) % 64), .int .i64 (pk a n)] 140)) := same_alloc _
    refine ⟨hB2.block hl7 (fun h => h), fun W2 hs2 _ hl2 => ?_⟩
    have hLW := (Array.getElem?_eq_some_iff.1 h7).1
    have hsA : Same (· = L) W W2 := ((hA.trans hB2).mono (fun _ _ h => h.elim)).trans hs2
    have hin : Same (fun b => w.heap.size ≤ b ∧ b < hi) W W2 := hsA.mono (fun b _ h => by omega)
    have hI2 := HCL.out _ _ _ _ _ _ HI.out hin
    have hM2 := HMEM.out _ _ _ _ _ hI2
    have d0 := hsA.cell h2 (by simp <;> omega)
    have d1 := hsA.cell h3 (by simp <;> omega)
    have d2 := hsA.cell h4 (by simp <;> omega)
    have d3 := hsA.cell h5 (by simp <;> omega)
    have d3' := hsA.unfrozen h5 h6 (by simp <;> omega)
    have dD := hsA.block h8 (by omega)
    have dB := hB.same hsA (by omega) (by omega)
    have hbl := hB.lt
    have dp := ((hB2.mono (T := (· = L)) (fun _ _ h => h.elim)).trans hs2).cell hp2 (by simp <;> omega)
    have q0 : W2.cell? ⟨VA.heap.size, 0, none⟩ = some (.int .i64 ((a : Int) / 64)) := hs2.cell (by simp) (by simp <;> omega)
    have q1 : W2.cell? ⟨VA.heap.size, 1, none⟩ = some (.int .i64 ((a : Int) % 64)) := hs2.cell (by simp) (by simp <;> omega)
    have q2 : W2.cell? ⟨VA.heap.size, 2, none⟩ = some (.int .i64 (pk a n)) := hs2.cell (by simp) (by simp <;> omega)
    have hz2 := hsA.size
    have hzVA : VA.heap.size < W2.heap.size := World.block_lt_of_cell? _ _ q0
    have HI2 := Lib.hid hI2
    have HDB := Lib.hid dB
    obtain ⟨⟨wf, wg, we⟩, hW⟩ : ∃ x, x = M.walk root ((a : Int) / 64) := ⟨_, rfl⟩
    have HW := Lib.hid hW
    have hwk := walk_any hM2 root ((a : Int) / 64) (by unfold In64; omega)
    rw [← hW] at hwk
    have HWK := Lib.hid hwk
    clear hI2 hM2 dB hW hwk h2 h3 h4 h5 h6 h8 hp2 hB hl7 hA hB2 hs2 h7
    gi_wp2_with fail
    refine CallsIn.mono (CallsIn.inRound L (callsIn_wide.2 HWK.out)) ?_
    rintro e W4 ⟨rfl, hs4⟩
    have e0 := hs4.cell d0 (fun h => h)
    have e1 := hs4.cell d1 (fun h => h)
    have e2 := hs4.cell d2 (fun h => h)
    have e3 := hs4.cell d3 (fun h => h)
    have e3' := hs4.unfrozen d3 d3' (fun h => h)
    have eD := hs4.block dD (fun h => h)
    have eL := hs4.block hl2 (fun h => h)
    have ep := hs4.cell dp (fun h => h)
    have s0 := hs4.cell q0 (fun h => h)
    have s1 := hs4.cell q1 (fun h => h)
    have s2 := hs4.cell q2 (fun h => h)
    have HDB4 := Lib.hid (HDB.out.same hs4 (fun h => h) (fun h => h))
    have HI4 := Lib.hid (HCL.out _ _ _ _ _ _ HI2.out (hs4.mono (fun _ _ h => h.elim)))
    have hin4 := hin.trans (hs4.mono (fun _ _ h => h.elim))
    have hz4 := hs4.size
    clear d0 d1 d2 d3 d3' dD dp q0 q1 q2 hs4 HDB HI2 HWK hin hsA hl2
    by_cases hwe : we = 0
    · subst hwe
      have hdo := HDO.out hi a n M W W4 hn hle2 HI.out h9 hin4 (by rw [← HW.out])
      rw [← HW.out] at hdo
      have HDOX := Lib.hid hdo
      have heg := HEG.out
      clear hdo
      gi_wp2_with fail
      refine CallsIn.mono (CallsIn.inRound L (callsIn_wide.2 HDOX.out)) ?_
      rintro e W6 ⟨hcase, hs6⟩
      have f0 := hs6.cell e0 (by simp <;> omega)
      have f1 := hs6.cell e1 (by simp <;> omega)
      have f2 := hs6.cell e2 (by simp <;> omega)
      have f3 := hs6.cell e3 (by simp <;> omega)
      have f3' := hs6.unfrozen e3 e3' (by simp <;> omega)
      have fD := hs6.block eD (by omega)
      have fL := hs6.block eL (by omega)
      have fp := hs6.cell ep (by simp <;> omega)
      have fB := HDB4.out.same hs6 (by omega) (by omega)
      have HFB := Lib.hid fB
      have hz6 := hs6.size
      have hb3 := World.block_lt_of_cell? _ _ f3
      clear e0 e1 e2 e3 e3' eD eL ep s0 s1 s2 hs6 fB HDOX heg
      rcases hcase with ⟨rfl, M', hI6⟩ | ⟨er, her, rfl, hX6⟩
      · have HI6 := Lib.hid hI6
        clear hI6
        obtain ⟨W7, hW7⟩ : ∃ W7, W7 = W6.setCell ⟨w.heap.size + 1 + 1 + 1, 0, none⟩ (.int .i64 0) := ⟨_, rfl⟩
        have hs7 : Same (· = w.heap.size + 1 + 1 + 1) W6 W7 := by rw [hW7]; exact (Same.refl _ _).setCell _ (.inr rfl)
        have g0 := hs7.cell f0 (by simp <;> omega)
        have g1 := hs7.cell f1 (by simp <;> omega)
        have g2 := hs7.cell f2 (by simp <;> omega)
        have g3 : W7.cell? ⟨w.heap.size + 1 + 1 + 1, 0, none⟩ = some (.int .i64 0) := by rw [hW7]; exact World.cell?_setCell_same _ _ _ f3
        have g3' : W7.frozen? ⟨w.heap.size + 1 + 1 + 1, 0, none⟩ = false := by rw [hW7]; simpa using f3'
        have gD := hs7.block fD (by omega)
        have gL := hs7.block fL (by omega)
        have gp := hs7.cell fp (by simp <;> omega)
        have HGB := Lib.hid (HFB.out.same hs7 (by omega) (by omega))
        have HI7 := Lib.hid (HCL.out _ _ _ _ _ _ HI6.out (hs7.mono (fun b _ h => by omega)))
        have hz7 := hs7.size
        have HW7 := Lib.hid hW7
        clear hW7 hs7
        gi_wp2
        rw [← HW7.out]
        refine ⟨gL, fun W8 hs8 _ hl8 => .inl ⟨rfl, HGB.out.same hs8 (by omega) (by omega), ⟨⟨M', HCL.out _ _ _ _ _ _ HI7.out (hs8.mono (fun b _ h => by omega))⟩, hs8.cell g0 (by simp <;> omega), hs8.cell g1 (by simp <;> omega), hs8.cell g2 (by simp <;> omega), hs8.cell g3 (by simp <;> omega), hs8.unfrozen g3 g3' (by simp <;> omega), hl8, hs8.block gD (by omega), by have := hs8.size; omega⟩, hs8.cell gp (by simp <;> omega)⟩⟩
      · have HX6 := Lib.hid hX6
        have hbe : (er != 0) = true := by simpa using her
        have HER := Lib.hid her
        clear hX6 her
        obtain ⟨W7, hW7⟩ : ∃ W7, W7 = W6.setCell ⟨w.heap.size + 1 + 1 + 1, 0, none⟩ (.int .i64 er) := ⟨_, rfl⟩
        have hs7 : Same (· = w.heap.size + 1 + 1 + 1) W6 W7 := by rw [hW7]; exact (Same.refl _ _).setCell _ (.inr rfl)
        have g3 : W7.cell? ⟨w.heap.size + 1 + 1 + 1, 0, none⟩ = some (.int .i64 er) := by rw [hW7]; exact World.cell?_setCell_same _ _ _ f3
        have gD := hs7.block fD (by omega)
        have gL := hs7.block fL (by omega)
        have HX7 := Lib.hid (HX.out _ _ _ _ HX6.out (hs7.mono (fun b _ h => by omega)))
        have HW7 := Lib.hid hW7
        clear hW7 hs7
        gi_wp2
        rw [← HW7.out]
        exact ⟨gL, fun W8 hs8 _ hl8 => .inr ⟨rfl, er, HER.out, HX.out _ _ _ _ HX7.out (hs8.mono (fun b _ h => by omega)), hs8.cell g3 (by simp <;> omega), hl8, hs8.block gD (by omega)⟩⟩
    · have HWE := Lib.hid hwe
      have hbe : (we != 0) = true := by simpa using hwe
      have hX4 := HFAIL.out hi a n M W4 hn HI4.out (by rw [← HW.out]; exact hwe)
      have HX4 := Lib.hid hX4
      clear hX4 hwe
      have hb3 := World.block_lt_of_cell? _ _ e3
      obtain ⟨W7, hW7⟩ : ∃ W7, W7 = W4.setCell ⟨w.heap.size + 1 + 1 + 1, 0, none⟩ (.int .i64 30) := ⟨_, rfl⟩
      have hs7 : Same (· = w.heap.size + 1 + 1 + 1) W4 W7 := by rw [hW7]; exact (Same.refl _ _).setCell _ (.inr rfl)
      have g3 : W7.cell? ⟨w.heap.size + 1 + 1 + 1, 0, none⟩ = some (.int .i64 30) := by rw [hW7]; exact World.cell?_setCell_same _ _ _ e3
      have gD := hs7.block eD (by omega)
      have gL := hs7.block eL (by omega)
      have HX7 := Lib.hid (HX.out _ _ _ _ HX4.out (hs7.mono (fun b _ h => by omega)))
      have HW7 := Lib.hid hW7
      clear hW7 hs7
      gi_wp2
      rw [← HW7.out]
      exact ⟨gL, fun W8 hs8 _ hl8 => .inr ⟨rfl, 30, by decide, HX.out _ _ _ _ HX7.out (hs8.mono (fun b _ h => by omega)), hs8.cell g3 (by simp <;> omega), hl8, hs8.block gD (by omega)⟩⟩
  · rintro e W ⟨⟨v, rfl⟩, ⟨aE, M, h1, h2, h3, h4, h5, h6, h7, h8, h9⟩ | ⟨er, her, hX, h5, h7, h8⟩⟩
    · refine ⟨⟨_, rfl⟩, .inl ⟨h7, fun W2 hs2 _ => ?_⟩⟩
      have k5 := hs2.cell h5 (by simp <;> omega)
      have kD := hs2.block h8 (by omega)
      have HI2 := Lib.hid (HCL.out _ _ _ _ _ _ h1 (hs2.mono (fun b _ h => by omega)))
      clear h1
      gi_wp2
      refine leaves_mark kD fun W5 hs6 _ => ⟨results_tmp rfl _ _ _, .inl ⟨rfl, hi, aE, M, HCL.out _ _ _ _ _ _ HI2.out (hs6.mono (fun b _ h => by omega))⟩⟩
    · refine ⟨⟨_, rfl⟩, .inr ⟨_, h7, fun W2 hs2 _ => ?_⟩⟩
      have k5 := hs2.cell h5 (by simp <;> omega)
      have kD := hs2.block h8 (by omega)
      have HX2 := Lib.hid (HX.out _ _ _ _ hX (hs2.mono (fun b _ h => by omega)))
      clear hX
      gi_wp2
      refine leaves_mark kD fun W5 hs6 _ => ⟨results_tmp rfl _ _ _, .inr ⟨er, hi, her, rfl, HX.out _ _ _ _ HX2.out (hs6.mono (fun b _ h => by omega))⟩⟩
end Go.Proofs.Ytlbgnmcjdmdjpaa
namespace Go.Proofs.Ytlbgnmcjdmdjpaa
open Go.RowKit Go.Shelf
attribute [local go_sem] Oper.semAt_some

set_option maxHeartbeats 1600000 in
theorem clo81 (w : World) (pg at_ k fr fl : Int) (bx : Nat) (wr : Bool) (hc : w.cell? ⟨bx, 0, none⟩ = some (.bool wr)) (hk : 0 < k) :
    Calls Try.prog 81 #[.agg #[.int .i64 pg, .int .i64 at_, .int .i64 k], .int .i64 fr, .int .i64 fl, .pointer (some ⟨bx, 0, none⟩)] w fun e w' =>
      e = .returned (.int .i64 (if wr = true ∧ bits .and .i64 fl 2 = 0 then 30 else 0)) ∧ Same (fun _ => False) w w' := by
  have hlt := World.block_lt_of_cell? _ _ hc
  simp only at hlt
  have hkb : (k == 0) = false := by simp; omega
  obtain ⟨b, hb⟩ : ∃ b, b = bits .and .i64 fl 2 := ⟨_, rfl⟩
  have hs : Same (fun _ => False) w ((w.alloc (.cells #[.int .i64 pg, .int .i64 at_, .int .i64 k] 140)).alloc (.cells #[.int .i64 0, .int .i64 0, .int .i64 0] 140)) := (same_alloc _).alloc _
  cases wr with
  | false =>
    simp only [Bool.false_eq_true, false_and, if_false]
    clear hb
    go_enter Try.func81, Try.ntmps81
    go_wp2
    go_ret
    exact ⟨rfl, hs⟩
  | true =>
    rw [← hb]
    simp only [true_and]
    by_cases hz : b = 0
    · rw [if_pos hz]
      have hb2 : bits .and .i64 fl 2 = 0 := by rw [← hb]; exact hz
      clear hb hz
      go_enter Try.func81, Try.ntmps81
      go_wp2
      go_ret
      exact ⟨rfl, hs⟩
    · rw [if_neg hz]
      have hb2 : (bits .and .i64 fl 2 == 0) = false := by rw [← hb]; simpa using hz
      clear hb hz
      go_enter Try.func81, Try.ntmps81
      go_wp2
      go_ret
      exact ⟨rfl, hs⟩

/-- May a byte's page be read, or written? -/
def Mm.okB (M : Mm) (root : Int) (wr : Bool) (i : Nat) : Prop := (M.walk root ((i : Int) / 64)).2.2 = 0 ∧ (wr = true → bits .and .i64 (M.walk root ((i : Int) / 64)).2.1 2 ≠ 0)
theorem Mm.okB_page {M : Mm} {root : Int} {wr : Bool} {a i : Nat} (h : i / 64 = a / 64) : M.okB root wr i ↔ M.okB root wr a := by
  unfold Mm.okB
  rw [show ((i : Int) / 64) = ((a : Int) / 64) by omega]
/-- What Check tells. -/
def ChkR (M : Mm) (root addr n : Int) (wr : Bool) (er : Int) : Prop :=
  (M.isUsed root = false ∧ er = 10) ∨
  (M.isUsed root = true ∧ (n < 0 ∨ 4096 < n) ∧ er = 2) ∨
  (M.isUsed root = true ∧ 0 ≤ n ∧ n ≤ 4096 ∧ (addr < 0 ∨ 16384 < addr ∨ 16384 < addr + n) ∧ er = 30) ∨
  (M.isUsed root = true ∧ ∃ a k : Nat, addr = a ∧ n = k ∧ k ≤ 4096 ∧ a + k ≤ 16384 ∧ ((er = 0 ∧ ∀ i, a ≤ i → i < a + k → M.okB root wr i) ∨ (er = 30 ∧ ∃ i, a ≤ i ∧ i < a + k ∧ ¬ M.okB root wr i)))

theorem check_span {w : World} {f fb : Nat} {M : Mm} (hM : MemAt w f fb M) (root : Int) (a0 n0 : Nat) (hle : a0 + n0 ≤ 16384) (bx : Nat) (wr : Bool) (hc : w.cell? ⟨bx, 0, none⟩ = some (.bool wr)) :
    Calls Try.prog 76 #[.pointer (some ⟨f, 0, none⟩), .int .i64 root, .int .i64 a0, .int .i64 n0, .func (.func 81) #[] #[.pointer (some ⟨bx, 0, none⟩)]] w fun e W =>
      ∃ er, e = .returned (.int .i64 er) ∧ ((er = 0 ∧ ∀ i, a0 ≤ i → i < a0 + n0 → M.okB root wr i) ∨ (er = 30 ∧ ∃ i, a0 ≤ i ∧ i < a0 + n0 ∧ ¬ M.okB root wr i)) ∧ Same (fun _ => False) w W := by
  have hlt := hM.lt
  have hbx := World.block_lt_of_cell? _ _ hc
  simp only at hbx
  refine (each_any w f fb root a0 n0 M (by omega) 81 #[.pointer (some ⟨bx, 0, none⟩)] (enters_of Try.func81 (by kernel_rfl) rfl)
    (fun hi a n M' W => M' = M ∧ MemAt W f fb M ∧ a0 ≤ a ∧ a + n = a0 + n0 ∧ (∀ i, a0 ≤ i → i < a → M.okB root wr i) ∧ W.cell? ⟨bx, 0, none⟩ = some (.bool wr) ∧ Same (fun _ => False) w W)
    (fun hi er W => er = 30 ∧ (∃ i, a0 ≤ i ∧ i < a0 + n0 ∧ ¬ M.okB root wr i) ∧ Same (fun _ => False) w W) ?_ ?_ ?_ ?_ ?_ ?_).mono ?_
  · rintro hi a n M' W ⟨rfl, h1, _⟩
    exact h1
  · rintro hi a n M' W W' ⟨rfl, h1, h2, h3, h4, h5, h6⟩ hs
    exact ⟨rfl, h1.same hs (by omega) (by omega), h2, h3, h4, hs.cell h5 (by simp; omega), h6.trans' hs (fun k hk hkw => by omega)⟩
  · rintro hi er W W' ⟨h1, h2, h3⟩ hs
    exact ⟨h1, h2, h3.trans' hs (fun k hk hkw => by omega)⟩
  · rintro hi a n M' W hn ⟨rfl, h1, h2, h3, h4, h5, h6⟩ hw
    exact ⟨rfl, ⟨a, h2, by omega, fun hok => hw hok.1⟩, h6⟩
  · rintro hi a n M' W0 W hn hle2 ⟨rfl, h1, h2, h3, h4, h5, h6⟩ hhi hs hw
    obtain ⟨k1, k2, k3⟩ := pk_pos (a := a) hn
    have h5' := hs.cell h5 (by simp; omega)
    have h6' : Same (fun _ => False) w W := h6.trans' hs (fun k hk hkw => by omega)
    have h1' := h1.same hs (by omega) (by omega)
    refine (clo81 W _ _ _ _ _ bx wr h5' (by omega)).mono ?_
    rintro e W' ⟨rfl, hs2⟩
    refine ⟨?_, hs2.mono (fun _ _ h => h.elim)⟩
    by_cases hz : wr = true ∧ bits .and .i64 (M'.walk root ((a : Int) / 64)).2.1 2 = 0
    · right
      rw [if_pos hz]
      exact ⟨30, by decide, rfl, rfl, ⟨a, h2, by omega, fun hok => hok.2 hz.1 hz.2⟩, h6'.trans hs2⟩
    · left
      rw [if_neg hz]
      refine ⟨rfl, M', rfl, h1'.same0 hs2, by omega, by omega, ?_, hs2.cell h5' (by simp), h6'.trans hs2⟩
      intro i hi1 hi2
      rcases Nat.lt_or_ge i a with h | h
      · exact h4 i hi1 h
      · rw [Mm.okB_page (show i / 64 = a / 64 by omega)]
        refine ⟨hw, fun hwr hb => hz ⟨hwr, hb⟩⟩
  · intro W1 hs
    exact ⟨rfl, hM.same0 hs, Nat.le_refl _, rfl, fun i h1 h2 => by omega, hs.cell hc (by simp), hs⟩
  · rintro e W (⟨rfl, hi, a, M', rfl, h1, h2, h3, h4, h5, h6⟩ | ⟨er, hi, her, rfl, h1, h2, h3⟩)
    · exact ⟨0, rfl, .inl ⟨rfl, fun i hi1 hi2 => h4 i hi1 (by omega)⟩, h6⟩
    · exact ⟨er, rfl, .inr ⟨h1, h2⟩, h3⟩

theorem check_nil_c (w : World) (root addr n : Int) (wr : Bool) : Calls Try.prog 44 #[.pointer none, .int .i64 root, .int .i64 addr, .int .i64 n, .bool wr] w fun e w' => e = .returned (.int .i64 1) ∧ Same (fun _ => False) w w' := by
  go_enter Try.func44, Try.ntmps44
  go_wp2
  go_ret
  exact ⟨rfl, same_alloc _⟩

set_option maxHeartbeats 3200000 in
set_option maxRecDepth 8192 in
theorem check_c {w : World} {f fb : Nat} {M : Mm} (hM : MemAt w f fb M) (root addr n : Int) (wr : Bool) (ha : In64 addr) (hn : In64 n) :
    Calls Try.prog 44 #[.pointer (some ⟨f, 0, none⟩), .int .i64 root, .int .i64 addr, .int .i64 n, .bool wr] w fun e w' => ∃ er, e = .returned (.int .i64 er) ∧ ChkR M root addr n wr er ∧ Same (fun _ => False) w w' := by
  have hM1 := hM.same0 (same_alloc (.cells #[.bool wr] 4))
  have hrf := refs_any hM1 root
  have hz := M.refs_zero root
  cases hu : M.isUsed root with
  | false =>
    have hr : (M.refs root == 0) = true := by rw [beq_iff_eq]; exact hz.2 hu
    have HU := Lib.hid hu
    clear hz hu
    go_enter Try.func44, Try.ntmps44
    go_wp2_with fail
    refine hrf.mono ?_
    rintro e w1 ⟨rfl, hs1⟩
    go_wp2
    go_ret
    exact ⟨10, rfl, .inl ⟨HU.out, rfl⟩, (same_alloc _).trans hs1⟩
  | true =>
    have hr : (M.refs root == 0) = false := by
      rw [beq_eq_false_iff_ne]; intro h0; have := hz.1 h0; rw [hu] at this; cases this
    have HU := Lib.hid hu
    clear hz hu
    by_cases hna : n < 0 ∨ 4096 < n
    · have hb : (decide (n < 0) || decide (4096 < n)) = true := by simpa using hna
      have HNA := Lib.hid hna
      clear hna
      go_enter Try.func44, Try.ntmps44
      go_wp2_with fail
      refine hrf.mono ?_
      rintro e w1 ⟨rfl, hs1⟩
      go_wp2
      all_goals
        go_ret
        exact ⟨2, rfl, .inr (.inl ⟨HU.out, HNA.out, rfl⟩), (same_alloc _).trans hs1⟩
    · have hb : (decide (n < 0) || decide (4096 < n)) = false := by simp; omega
      have hn0 : 0 ≤ n := by omega
      have hn1 : n ≤ 4096 := by omega
      by_cases haa : addr < 0 ∨ 16384 < addr
      · have hb2 : (decide (addr < 0) || decide (16384 < addr)) = true := by simpa using haa
        have HAA := Lib.hid haa
        clear haa hna
        go_enter Try.func44, Try.ntmps44
        go_wp2_with fail
        refine hrf.mono ?_
        rintro e w1 ⟨rfl, hs1⟩
        go_wp2
        all_goals
          go_ret
          exact ⟨30, rfl, .inr (.inr (.inl ⟨HU.out, hn0, hn1, by have := HAA.out; omega, rfl⟩)), (same_alloc _).trans hs1⟩
      · have hb2 : (decide (addr < 0) || decide (16384 < addr)) = false := by simp; omega
        by_cases hsp : 16384 - addr < n
        · have hb3 : decide (16384 - addr < n) = true := by simpa using hsp
          have HSP := Lib.hid hsp
          have HAA := Lib.hid haa
          clear haa hna hsp
          go_enter Try.func44, Try.ntmps44
          go_wp2_with fail
          refine hrf.mono ?_
          rintro e w1 ⟨rfl, hs1⟩
          go_wp2
          all_goals
            go_ret
            exact ⟨30, rfl, .inr (.inr (.inl ⟨HU.out, hn0, hn1, by have := HSP.out; omega, rfl⟩)), (same_alloc _).trans hs1⟩
        · have hb3 : decide (16384 - addr < n) = false := by simp; omega
          obtain ⟨k, rfl⟩ := Int.eq_ofNat_of_zero_le hn0
          obtain ⟨a, rfl⟩ := Int.eq_ofNat_of_zero_le (show 0 ≤ addr by omega)
          have hle : a + k ≤ 16384 := by omega
          clear haa hna hsp
          go_enter Try.func44, Try.ntmps44
          go_wp2_with fail
          refine hrf.mono ?_
          rintro e w1 ⟨rfl, hs1⟩
          have hcb := hs1.cell (a := ⟨w.heap.size, 0, none⟩) (v := .bool wr) (by simp) (by simp)
          go_wp2_with fail
          refine (check_span (hM1.same0 hs1) root a k hle w.heap.size wr hcb).mono ?_
          rintro e w2 ⟨er, rfl, hcase, hs2⟩
          have HCASE := Lib.hid hcase
          clear hcase
          go_wp2
          go_ret
          exact ⟨er, rfl, .inr (.inr (.inr ⟨HU.out, a, k, rfl, rfl, by omega, hle, HCASE.out⟩)), ((same_alloc _).trans hs1).trans hs2⟩
end Go.Proofs.Ytlbgnmcjdmdjpaa
namespace Go.Proofs.Ytlbgnmcjdmdjpaa
open Go.RowKit Go.Shelf
attribute [local go_sem] Oper.semAt_some

def strs (xs : List ByteArray) : List Value := xs.map Value.string
set_option maxHeartbeats 3200000 in
set_option maxRecDepth 8192 in
theorem clo77 {W : World} {f fb : Nat} {M : Mm} (hM : MemAt W f fb M) (mb ob base : Nat) (hm : W.cell? ⟨mb, 0, none⟩ = some (.pointer (some ⟨f, 0, none⟩))) {v : Value} {xs : List ByteArray}
    (hv : W.cell? ⟨ob, 0, none⟩ = some v) (hz : W.frozen? ⟨ob, 0, none⟩ = false) (hrow : W.ownsRow base 9 1 v xs.length (strs xs)) (hbase : base ≤ W.heap.size) (hno : ¬ v.ownBlock = some ob)
    (pg fl : Int) (at_ k fr : Nat) (hat : at_ < 64) (hk : at_ + k ≤ 64) (hfr : fr < M.n) (hR : 0 < M.R fr) (hlen : xs.length ≤ 5000) :
    Calls Try.prog 77 #[.agg #[.int .i64 pg, .int .i64 at_, .int .i64 k], .int .i64 fr, .int .i64 fl, .pointer (some ⟨mb, 0, none⟩), .pointer (some ⟨ob, 0, none⟩)] W fun e W' => e = .returned (.int .i64 0) ∧
      ∃ v', W'.cell? ⟨ob, 0, none⟩ = some v' ∧ W'.frozen? ⟨ob, 0, none⟩ = false ∧ W'.ownsRow base 9 1 v' (xs ++ [M.str fr at_ k]).length (strs (xs ++ [M.str fr at_ k])) ∧
        Same (fun b => b = ob ∨ v.ownBlock = some b) W W' ∧ (∀ g, v'.ownBlock = some g → v.ownBlock = some g ∨ W.heap.size ≤ g) := by
  obtain ⟨is, his, hzs, hzs1, hzs2⟩ := info_parts info9
  have hlt := World.block_lt_of_cell? _ _ hm
  have hlt2 := World.block_lt_of_cell? _ _ hv
  simp only at hlt hlt2
  have HROW := Lib.hid hrow
  have hrd := read_ok (hM.same0 (same_alloc (.cells #[.int .i64 pg, .int .i64 at_, .int .i64 k] 140))) fr at_ k hfr hR hat hk
  have hst : strs (xs ++ [M.str fr at_ k]) = strs xs ++ [.string (M.str fr at_ k)] := by unfold strs; simp
  have hln : (xs ++ [M.str fr at_ k]).length = xs.length + 1 := by simp
  rw [hst, hln]
  obtain ⟨S, hS⟩ : ∃ S, S = M.str fr at_ k := ⟨_, rfl⟩
  rw [← hS] at hrd ⊢
  have HNO := Lib.hid hno
  clear hS hst hln hrow hM hno
  refine (callsIn_wide (n := 0)).1 ?_
  refine callsIn_of_wp Try.func77 rfl trivial ?_ rfl
  simp only [Try.ntmps77, List.size_toArray, List.length_cons, List.length_nil, Nat.reduceAdd, Nat.reduceSub, Array.replicate_succ, Array.replicate_zero, List.push_toArray, List.append_toArray, List.nil_append, List.cons_append]
  gi_wp2_with fail
  refine CallsIn.mono (callsIn_wide.2 hrd) ?_
  rintro e W2 ⟨rfl, hs2⟩
  have hsA : Same (fun _ => False) W W2 := (same_alloc _).trans hs2
  have v2 := hsA.cell hv (fun h => h)
  have z2 := hsA.unfrozen hv hz (fun h => h)
  have HROW2 := Lib.hid (ownsRow_same HROW.out hsA (by simp))
  have hz2 := hsA.size
  clear hs2 hrd
  gi_wp2_with (gi_at_builtin; refine stop_intro ?_)
  unfold Stop
  refine wpListIn_append_same rfl _ _ 120 rfl base 9 is (.string ByteArray.empty) 1 16 Try.underlying120 his hzs hzs1 hzs2 rfl (by decide) _ _ _ rfl (HROW2.out.alloc _) ⟨W2.heap.size, 0, none⟩ 1 1 [.string S] (by rfl) (by rfl) ?c1 ?c2 ?c3 ?c4 ?c5 ?_
  case c1 =>
    intro j u hu
    exact cells_new rfl hu
  case c2 => simp [Value.oneCell']
  case c3 => unfold maxLen; omega
  case c4 => omega
  case c5 => simp; omega
  intro v' W3 hown' hsame hfresh
  obtain ⟨g', cap', rfl⟩ := own_row_succ hown'
  have hsB : Same (fun b => v.ownBlock = some b) W2 W3 := ((same_alloc (.cells #[.string S] 9)).mono (fun _ _ h => h.elim)).trans hsame
  have v3 := hsB.cell v2 HNO.out
  have z3 := hsB.unfrozen v2 z2 HNO.out
  have HO := Lib.hid hown'
  have hg' : v.ownBlock = some g' ∨ W.heap.size ≤ g' := by
    rcases hfresh g' rfl with h | h
    · exact .inl h
    · right; simp at h; omega
  have HG := Lib.hid hg'
  have hg2 : g' ≠ ob := by
    rintro rfl
    rcases hg' with h | h
    · exact HNO.out h
    · omega
  clear hown' hsame hfresh hg'
  gi_wp2
  refine bodyPost_ret (results_tmp rfl _ _ _) rfl ⟨rfl, _, World.cell?_setCell_same _ _ _ v3, by simpa using z3, ?_, ?_, ?_⟩
  · exact ownsRow_same HO.out ((Same.refl (· = ob) _).setCell _ (.inr rfl)) (fun g hg e => by simp only [Value.ownBlock, Option.some.injEq] at hg; omega)
  · exact ((hsA.mono (T := fun b => b = ob ∨ v.ownBlock = some b) (fun _ _ h => h.elim)).trans (hsB.mono (fun b _ h => .inr h))).setCell _ (.inr (.inl rfl))
  · intro g hg
    simp only [Value.ownBlock, Option.some.injEq] at hg
    subst hg
    exact HG.out

/-- The byte at an address. -/
def Mm.vb (M : Mm) (root : Int) (i : Nat) : UInt8 := M.B (M.walk root ((i : Int) / 64)).1.toNat (i % 64)
def Mm.vs (M : Mm) (root : Int) (a n : Nat) : List UInt8 := (List.range n).map fun j => M.vb root (a + j)
def Mm.vstr (M : Mm) (root : Int) (a n : Nat) : ByteArray := ⟨(M.vs root a n).toArray⟩
theorem Mm.vs_len (M : Mm) (root : Int) (a n : Nat) : (M.vs root a n).length = n := by unfold Mm.vs; simp
theorem Mm.vs_add (M : Mm) (root : Int) (a x k : Nat) : M.vs root a (x + k) = M.vs root a x ++ M.vs root (a + x) k := by
  unfold Mm.vs
  rw [List.range_add, List.map_append, List.map_map]
  congr 1
  apply List.map_congr_left
  intro j _
  simp [Nat.add_assoc]
theorem Mm.vs_piece (M : Mm) (root : Int) (a k fr : Nat) (hk : a % 64 + k ≤ 64) (hw : (M.walk root ((a : Int) / 64)).1 = fr) : (M.str fr (a % 64) k).data.toList = M.vs root a k := by
  unfold Mm.str Mm.bytes Mm.vs Mm.vb
  apply List.map_congr_left
  intro j hj
  have hj' := List.mem_range.1 hj
  rw [show (((a + j : Nat) : Int) / 64) = (a : Int) / 64 by omega, hw, show (a + j) % 64 = a % 64 + j by omega]
  rfl
/-- Mapped pages have frames in use. -/
def FramesOk (M : Mm) (root : Int) : Prop := ∀ p : Int, (M.walk root p).2.2 = 0 → M.isUsed (M.walk root p).1 = true
/-- What In tells. -/
def InR (M : Mm) (root addr n er : Int) (s : ByteArray) : Prop := ChkR M root addr n false er ∧ ((er ≠ 0 ∧ s = ByteArray.empty) ∨ (er = 0 ∧ s = M.vstr root addr.toNat n.toNat))

theorem in_span {w : World} {f fb : Nat} {M : Mm} (hM : MemAt w f fb M) (root : Int) (hfo : FramesOk M root) (a0 n0 : Nat) (hn : n0 ≤ 4096) (hle : a0 + n0 ≤ 16384) (hok : ∀ i, a0 ≤ i → i < a0 + n0 → M.okB root false i) (mb ob : Nat)
    (hm : w.cell? ⟨mb, 0, none⟩ = some (.pointer (some ⟨f, 0, none⟩))) (ho : w.cell? ⟨ob, 0, none⟩ = some (.slice none 0 0)) (hz : w.frozen? ⟨ob, 0, none⟩ = false) (hd1 : ob ≠ mb) (hd2 : ob ≠ f) (hd3 : ob ≠ fb) :
    Calls Try.prog 76 #[.pointer (some ⟨f, 0, none⟩), .int .i64 root, .int .i64 a0, .int .i64 n0, .func (.func 77) #[] #[.pointer (some ⟨mb, 0, none⟩), .pointer (some ⟨ob, 0, none⟩)]] w fun e W =>
      e = .returned (.int .i64 0) ∧ ∃ v xs, W.cell? ⟨ob, 0, none⟩ = some v ∧ W.ownsRow w.heap.size 9 1 v xs.length (strs xs) ∧ xs.length ≤ n0 ∧ (xs.map (·.data.toList)).flatten = M.vs root a0 n0 ∧ Same (· = ob) w W := by
  have hlt := hM.lt
  have hmb := World.block_lt_of_cell? _ _ hm
  have hob := World.block_lt_of_cell? _ _ ho
  simp only at hmb hob
  refine (each_any w f fb root a0 n0 M (by omega) 77 #[.pointer (some ⟨mb, 0, none⟩), .pointer (some ⟨ob, 0, none⟩)] (enters_of Try.func77 (by kernel_rfl) rfl)
    (fun hi a n M' W => M' = M ∧ MemAt W f fb M ∧ a0 ≤ a ∧ a + n = a0 + n0 ∧ W.cell? ⟨mb, 0, none⟩ = some (.pointer (some ⟨f, 0, none⟩)) ∧
      (∃ v xs, W.cell? ⟨ob, 0, none⟩ = some v ∧ W.frozen? ⟨ob, 0, none⟩ = false ∧ W.ownsRow w.heap.size 9 1 v xs.length (strs xs) ∧ (∀ g, v.ownBlock = some g → hi ≤ g) ∧ xs.length ≤ a - a0 ∧ (xs.map (·.data.toList)).flatten = M.vs root a0 (a - a0)) ∧
      Same (· = ob) w W ∧ w.heap.size ≤ hi)
    (fun hi er W => False) ?_ ?_ ?_ ?_ ?_ ?_).mono ?_
  · rintro hi a n M' W ⟨rfl, h1, _⟩
    exact h1
  · rintro hi a n M' W W' ⟨rfl, h1, h2, h3, h4, ⟨v, xs, h5, h6, h7, h8, h9, h10⟩, h11, h12⟩ hs
    exact ⟨rfl, h1.same hs (by omega) (by omega), h2, h3, hs.cell h4 (by simp; omega), ⟨v, xs, hs.cell h5 (by simp; omega), hs.unfrozen h5 h6 (by simp; omega), ownsRow_same h7 hs (fun g hg h => by have := h8 g hg; omega), h8, h9, h10⟩,
      h11.trans' hs (fun k hk hkw => by omega), h12⟩
  · rintro hi er W W' h _
    exact h
  · rintro hi a n M' W hn1 ⟨rfl, h1, h2, h3, _⟩ hw
    exact hw (hok a h2 (by omega)).1
  · rintro hi a n M' W0 W hn1 hle2 ⟨rfl, h1, h2, h3, h4, ⟨v, xs, h5, h6, h7, h8, h9, h10⟩, h11, h12⟩ hhi hs hw
    obtain ⟨k1, k2, k3⟩ := pk_pos (a := a) hn1
    have hu := hfo ((a : Int) / 64) hw
    obtain ⟨fr, hfr, hfr2, hR⟩ := Mm.used_iff hu
    have h5' := hs.cell h5 (by simp; omega)
    have h6' := hs.unfrozen h5 h6 (by simp; omega)
    have h7' := ownsRow_same h7 hs (fun g hg h => by have := h8 g hg; omega)
    have hz0 := h11.size
    have hz1 := hs.size
    rw [hfr]
    rw [show ((a : Int) % 64) = ((a % 64 : Nat) : Int) by omega]
    refine (clo77 (h1.same hs (by omega) (by omega)) mb ob w.heap.size (hs.cell h4 (by simp; omega)) h5' h6' h7' (by omega) (fun h => by have := h8 ob h; omega) _ _ (a % 64) (pk a n) fr (by omega) k3 hfr2 hR (by omega)).mono ?_
    rintro e W' ⟨rfl, v', g1, g2, g3, g4, g5⟩
    have hg8 : ∀ g, v.ownBlock = some g → hi ≤ g ∧ g < W0.heap.size := fun g hg => ⟨h8 g hg, (ownsRow_shape h7 hg).2.1⟩
    refine ⟨.inl ⟨rfl, M', rfl, (h1.same hs (by omega) (by omega)).same g4 ?_ ?_, by omega, by omega, g4.cell (hs.cell h4 (by simp; omega)) ?_, ⟨v', xs ++ [M'.str fr (a % 64) (pk a n)], g1, g2, g3, ?_, ?_, ?_⟩, ?_, h12⟩, g4.mono ?_⟩
    · rintro (h | h)
      · omega
      · have := hg8 f h; omega
    · rintro (h | h)
      · omega
      · have := hg8 fb h; omega
    · rintro (h | h)
      · simp only at h; omega
      · have := hg8 mb h; omega
    · intro g hg
      rcases g5 g hg with h | h
      · exact h8 g h
      · omega
    · rw [List.length_append]; simp; omega
    · rw [show a + pk a n - a0 = (a - a0) + pk a n by omega, Mm.vs_add, List.map_append, List.flatten_append, h10, show a0 + (a - a0) = a by omega]
      simp only [List.map_cons, List.map_nil, List.flatten_cons, List.flatten_nil, List.append_nil]
      rw [Mm.vs_piece M' root a (pk a n) fr k3 hfr]
    · exact (h11.trans' hs (fun k hk hkw => by omega)).trans' g4 (fun k hk hkw => by
        rcases hk with h | h
        · exact h
        · have := hg8 k h; omega)
    · rintro b hb (h | h)
      · omega
      · have := hg8 b h; omega
  · intro W1 hs
    exact ⟨rfl, hM.same0 hs, Nat.le_refl _, rfl, hs.cell hm (by simp), ⟨_, [], hs.cell ho (by simp), hs.unfrozen ho hz (by simp), World.ownsRow_nil _ _ _ _, by simp [Value.ownBlock], by simp, by simp [Mm.vs]⟩, hs.mono (fun _ _ h => h.elim), hs.size⟩
  · rintro e W (⟨rfl, hi, a, M', rfl, h1, h2, h3, h4, ⟨v, xs, h5, h6, h7, h8, h9, h10⟩, h11, h12⟩ | ⟨er, hi, her, rfl, h⟩)
    · have : a - a0 = n0 := by omega
      rw [this] at h9 h10
      exact ⟨rfl, v, xs, h5, h7, h9, h10, h11⟩
    · exact h.elim
end Go.Proofs.Ytlbgnmcjdmdjpaa
namespace Go.Proofs.Ytlbgnmcjdmdjpaa
open Go.RowKit Go.Shelf
attribute [local go_sem] Oper.semAt_some

theorem in_nil (w : World) (root addr n : Int) : Calls Try.prog 42 #[.pointer none, .int .i64 root, .int .i64 addr, .int .i64 n] w fun e w' => e = .returned (.tuple #[.string ByteArray.empty, .int .i64 1]) ∧ Same (fun _ => False) w w' := by
  go_enter Try.func42, Try.ntmps42
  go_wp2_with fail
  refine (check_nil_c _ root addr n false).mono ?_
  rintro e w1 ⟨rfl, hs1⟩
  go_wp2
  go_ret2
  exact ⟨rfl, (same_alloc _).trans hs1⟩

set_option maxHeartbeats 3200000 in
set_option maxRecDepth 8192 in
theorem in_c {w : World} {f fb : Nat} {M : Mm} (hM : MemAt w f fb M) (root addr n : Int) (ha : In64 addr) (hn : In64 n) (hfo : FramesOk M root) :
    Calls Try.prog 42 #[.pointer (some ⟨f, 0, none⟩), .int .i64 root, .int .i64 addr, .int .i64 n] w fun e w' => ∃ er s, e = .returned (.tuple #[.string s, .int .i64 er]) ∧ InR M root addr n er s ∧ Same (fun _ => False) w w' := by
  have hlt := hM.lt
  have HFO := Lib.hid hfo
  have hck := check_c (hM.same0 (same_alloc (.cells #[.pointer (some ⟨f, 0, none⟩)] 24))) root addr n false ha hn
  have H := Lib.hid hM
  clear hfo hM
  go_enter Try.func42, Try.ntmps42
  go_wp2_with fail
  refine hck.mono ?_
  rintro e w1 ⟨er, rfl, hcr, hs1⟩
  have HCR := Lib.hid hcr
  have b0 := hs1.cell (a := ⟨w.heap.size, 0, none⟩) (v := .pointer (some ⟨f, 0, none⟩)) (by simp) (by simp)
  have hsw : Same (fun _ => False) w w1 := (same_alloc _).trans hs1
  have hw1 := World.block_lt_of_cell? _ _ b0
  simp only at hw1
  clear hck hs1
  by_cases hz : er = 0
  · subst hz
    have hok : ∃ a k : Nat, addr = a ∧ n = k ∧ k ≤ 4096 ∧ a + k ≤ 16384 ∧ ∀ i, a ≤ i → i < a + k → M.okB root false i := by
      rcases hcr with ⟨_, h⟩ | ⟨_, _, h⟩ | ⟨_, _, _, _, h⟩ | ⟨_, a, k, h1, h2, h3, h4, ⟨_, h5⟩ | ⟨h5, _⟩⟩
      · omega
      · omega
      · omega
      · exact ⟨a, k, h1, h2, h3, h4, h5⟩
      · omega
    obtain ⟨a, k, rfl, rfl, hk, hle, hok⟩ := hok
    have HOK := Lib.hid hok
    have hsA : Same (fun _ => False) w1 (w1.alloc (.cells #[.slice none 0 0] 120)) := same_alloc _
    have hsp := in_span ((H.out.same0 hsw).same0 hsA) root HFO.out a k hk hle HOK.out w.heap.size w1.heap.size (hsA.cell b0 (by simp)) (by simp) (by simp) (by omega) (by omega) (by omega)
    have HSP := Lib.hid hsp
    clear hcr hok hsp
    go_wp2_with fail
    refine HSP.out.mono ?_
    rintro e w2 ⟨rfl, v, xs, h1, h2, h3, h4, h5⟩
    have hxl : ((xs.map (·.data.toList)).flatten).length ≤ 1000000 := by rw [h4, Mm.vs_len]; omega
    have hv : (v = .slice none 0 0 ∧ xs = []) ∨ ∃ g cap, v = .slice (some ⟨g, 0, none⟩) xs.length cap ∧ xs.length ≤ cap ∧ g < w2.heap.size ∧ ∀ (j : Nat) x, xs[j]? = some x → w2.cell? ⟨g, j, none⟩ = some (.string x) := by
      have hrow := h2
      rcases h2.2 with ⟨rfl, h0⟩ | ⟨g, cap, cur, rfl, hb, hg, hc, _⟩
      · exact .inl ⟨rfl, List.eq_nil_of_length_eq_zero h0⟩
      · refine .inr ⟨g, cap, rfl, hc, (Array.getElem?_eq_some_iff.1 hg).1, fun j x hx => ?_⟩
        have := hrow.cells (g := g) rfl j (.string x) (by unfold strs; rw [List.getElem?_map, hx]; rfl)
        have e : (⟨g, 0, none⟩ : Addr).add j = ⟨g, j, none⟩ := by unfold Addr.add; by_cases h : j = 0 <;> simp [h]
        rwa [e] at this
    have hcat : cat xs = M.vstr root a k := by unfold cat Mm.vstr; rw [h4]
    have hj := joined_any (w := w2) hv (by omega) hxl
    rw [hcat] at hj
    have HJ := Lib.hid hj
    have hs3 : Same (fun _ => False) w w2 := hsw.trans' ((hsA.mono (T := (· = w1.heap.size)) (fun _ _ h => h.elim)).trans h5) (fun b hb hbw => by omega)
    clear h2 h4 h5 hv hj hcat hxl hsA
    go_wp2_with fail
    refine HJ.out.mono ?_
    rintro e w3 ⟨rfl, hs4⟩
    go_wp2
    go_ret2
    exact ⟨0, _, rfl, ⟨HCR.out, .inr ⟨rfl, rfl⟩⟩, hs3.trans hs4⟩
  · have hb : (er != 0) = true := by simpa using hz
    have HZ := Lib.hid hz
    clear hz hcr
    go_wp2
    go_ret2
    exact ⟨er, _, rfl, ⟨HCR.out, .inl ⟨HZ.out, rfl⟩⟩, hsw⟩
end Go.Proofs.Ytlbgnmcjdmdjpaa
namespace Go.Proofs.Ytlbgnmcjdmdjpaa
open Go.RowKit Go.Shelf
attribute [local go_sem] Oper.semAt_some

/-- The root, its tables and all counts are the same. -/
structure Mm.SameTab (M M' : Mm) (r : Nat) (T : Nat → Option Nat) : Prop where
  n : M'.n = M.n
  R : M'.R = M.R
  root : ∀ o, M'.B r o = M.B r o
  tab : ∀ i k, T i = some k → ∀ o, M'.B k o = M.B k o
theorem Mm.SameTab.refl (M : Mm) (r : Nat) (T : Nat → Option Nat) : M.SameTab M r T := ⟨rfl, rfl, fun _ => rfl, fun _ _ _ _ => rfl⟩
theorem Mm.SameTab.trans {M M' M'' : Mm} {r : Nat} {T : Nat → Option Nat} (h : M.SameTab M' r T) (g : M'.SameTab M'' r T) : M.SameTab M'' r T :=
  ⟨g.n.trans h.n, g.R.trans h.R, fun o => (g.root o).trans (h.root o), fun i k hk o => (g.tab i k hk o).trans (h.tab i k hk o)⟩
theorem Mm.SameTab.tree {M M' : Mm} {r : Nat} {T : Nat → Option Nat} {cu : Nat} (h : M.SameTab M' r T) (ht : M.Tree r T cu) : M'.Tree r T cu := by
  have er : ∀ i, M'.ent r i = M.ent r i := fun i => by unfold Mm.ent; simp only [h.root]
  have ek : ∀ i k, T i = some k → ∀ j, M'.ent k j = M.ent k j := fun i k hk j => by unfold Mm.ent; simp only [h.tab i k hk]
  refine ⟨by rw [h.n]; exact ht.n2, by rw [h.n]; exact ht.rn, by rw [h.R]; exact ht.rR, fun i k hk => by rw [h.n, h.R]; exact ht.tb i k hk, ht.inj, fun i hi hn => by rw [er]; exact ht.top0 i hi hn, fun i k hk => by rw [er]; exact ht.top1 i k hk,
    fun i k j hk hj => by rw [ek i k hk]; exact ht.low i k j hk hj, fun i k hk => ?_, by rw [h.R, h.n]; exact ht.cnt⟩
  obtain ⟨j, hj, hj2⟩ := ht.ne i k hk
  exact ⟨j, hj, by rw [ek i k hk]; exact hj2⟩
theorem Mm.SameTab.lk {M M' : Mm} {r : Nat} {T : Nat → Option Nat} {cu : Nat} (h : M.SameTab M' r T) (ht : M.Tree r T cu) {p : Nat} (hp : p < 256) : M'.lk r p = M.lk r p := by
  rw [Mm.lk_tree (h.tree ht) hp, Mm.lk_tree ht hp]
  cases hT : T (p / 16) with
  | none => rfl
  | some k => simp only; unfold Mm.ent; simp only [h.tab _ k hT]
theorem Mm.SameTab.walk {M M' : Mm} {r : Nat} {T : Nat → Option Nat} {cu : Nat} (h : M.SameTab M' r T) (ht : M.Tree r T cu) (p : Int) : M'.walk r p = M.walk r p := by
  by_cases hp : 0 ≤ p ∧ p ≤ 255
  · obtain ⟨q, rfl⟩ := Int.eq_ofNat_of_zero_le hp.1
    rw [ht.walk (p := q) (by omega), (h.tree ht).walk (p := q) (by omega), h.lk ht (by omega)]
  · rw [ht.walk_out hp, (h.tree ht).walk_out hp]
/-- Each mapped page's frame is in use, its own, and neither the root nor a table. -/
structure Mm.Data (M : Mm) (r : Nat) (T : Nat → Option Nat) : Prop where
  fr : ∀ p : Int, (M.walk r p).2.2 = 0 → ∃ k : Nat, (M.walk r p).1 = k ∧ k < M.n ∧ 0 < M.R k ∧ k ≠ r ∧ ∀ i, T i ≠ some k
  inj : ∀ p q : Int, (M.walk r p).2.2 = 0 → (M.walk r q).2.2 = 0 → (M.walk r p).1 = (M.walk r q).1 → p = q
theorem Mm.Data.ok {M : Mm} {r : Nat} {T : Nat → Option Nat} (h : M.Data r T) : FramesOk M r := by
  intro p hp
  obtain ⟨k, h1, h2, h3, _⟩ := h.fr p hp
  rw [h1]
  exact Mm.isUsed_nat h2 h3
theorem Mm.Data.same {M M' : Mm} {r : Nat} {T : Nat → Option Nat} {cu : Nat} (h : M.Data r T) (hs : M.SameTab M' r T) (ht : M.Tree r T cu) : M'.Data r T :=
  ⟨fun p => by rw [hs.walk ht, hs.n, hs.R]; exact h.fr p, fun p q => by rw [hs.walk ht, hs.walk ht]; exact h.inj p q⟩
/-- Bytes are written at addresses. -/
structure OutR (M M' : Mm) (r : Nat) (T : Nat → Option Nat) (a0 a : Nat) (s : ByteArray) : Prop where
  tab : M.SameTab M' r T
  vb : ∀ i : Nat, (M.walk r ((i : Int) / 64)).2.2 = 0 → M'.vb r i = if a0 ≤ i ∧ i < a then (s.data.toList[i - a0]?).getD 0 else M.vb r i
  keep : ∀ x : Nat, (∀ i : Nat, a0 ≤ i → i < a → (M.walk r ((i : Int) / 64)).1 ≠ x) → ∀ o, M'.B x o = M.B x o
theorem OutR.zero {M : Mm} {r : Nat} {T : Nat → Option Nat} (a0 : Nat) (s : ByteArray) : OutR M M r T a0 a0 s :=
  ⟨Mm.SameTab.refl _ _ _, fun i _ => by rw [if_neg (by omega)], fun _ _ _ => rfl⟩
theorem OutR.step {M M' : Mm} {r : Nat} {T : Nat → Option Nat} {cu a0 a k : Nat} {s : ByteArray} (h : OutR M M' r T a0 a s) (ht : M.Tree r T cu) (hd : M.Data r T) (ha : a0 ≤ a) (hk : a % 64 + k ≤ 64) (h0 : 0 < k) (hs : a - a0 + k ≤ s.size)
    (hok : (M.walk r ((a : Int) / 64)).2.2 = 0) {fr : Nat} (hfr : (M.walk r ((a : Int) / 64)).1 = fr) : OutR M (M'.wr fr (a % 64) (s.extract (a - a0) (a - a0 + k))) r T a0 (a + k) s := by
  obtain ⟨x, h1, h2, h3, h4, h5⟩ := hd.fr _ hok
  obtain rfl : fr = x := by omega
  have hsz : (s.extract (a - a0) (a - a0 + k)).size = k := by rw [ByteArray.size_extract]; omega
  have hB : ∀ y o, (M'.wr fr (a % 64) (s.extract (a - a0) (a - a0 + k))).B y o = if y = fr ∧ a % 64 ≤ o ∧ o < a % 64 + k then (s.data.toList[a - a0 + (o - a % 64)]?).getD 0 else M'.B y o := by
    intro y o
    simp only [Mm.wr, hsz]
    split
    · rename_i hc
      congr 1
      rw [ByteArray.data_extract, Array.toList_extract, List.extract_eq_take_drop, List.getElem?_take, if_pos (by omega), List.getElem?_drop]
    · rfl
  have hT : M'.SameTab (M'.wr fr (a % 64) (s.extract (a - a0) (a - a0 + k))) r T :=
    ⟨rfl, rfl, fun o => by rw [hB, if_neg (by omega)], fun i y hy o => by rw [hB, if_neg (by rintro ⟨rfl, _⟩; exact h5 i hy)]⟩
  have hT2 := h.tab.trans hT
  refine ⟨hT2, fun i hi => ?_, fun y hy o => ?_⟩
  · obtain ⟨fi, g1, g2, g3, g4, g5⟩ := hd.fr _ hi
    have e1 : (M'.wr fr (a % 64) (s.extract (a - a0) (a - a0 + k))).vb r i = (M'.wr fr (a % 64) (s.extract (a - a0) (a - a0 + k))).B fi (i % 64) := by
      unfold Mm.vb; rw [hT2.walk ht, g1, Int.toNat_natCast]
    have e2 : M'.vb r i = M'.B fi (i % 64) := by unfold Mm.vb; rw [h.tab.walk ht, g1, Int.toNat_natCast]
    have hv := h.vb i hi
    rw [e1, hB]
    rw [e2] at hv
    by_cases hf : fi = fr
    · have hpg : ((i : Int) / 64) = ((a : Int) / 64) := hd.inj _ _ hi hok (by rw [g1, hfr, hf])
      by_cases hin : a ≤ i ∧ i < a + k
      · rw [if_pos (by omega), if_pos (by omega)]
        rw [show a - a0 + (i % 64 - a % 64) = i - a0 by omega]
      · rw [if_neg (by omega), hv]
        by_cases hin2 : a0 ≤ i ∧ i < a
        · rw [if_pos hin2, if_pos (by omega)]
        · rw [if_neg hin2, if_neg (by omega)]
    · rw [if_neg (by omega), hv]
      have hne : ¬ (a ≤ i ∧ i < a + k) := by
        intro hin
        apply hf
        have : ((i : Int) / 64) = ((a : Int) / 64) := by omega
        rw [this, hfr] at g1
        omega
      by_cases hin2 : a0 ≤ i ∧ i < a
      · rw [if_pos hin2, if_pos (by omega)]
      · rw [if_neg hin2, if_neg (by omega)]
  · have hyf : y ≠ fr := by
      rintro rfl
      exact hy a ha (by omega) hfr
    rw [hB, if_neg (by omega)]
    exact h.keep y (fun i h1 h2 => hy i h1 (by omega)) o

set_option maxHeartbeats 3200000 in
set_option maxRecDepth 8192 in
theorem clo79 {W : World} {f fb : Nat} {M : Mm} (hM : MemAt W f fb M) (mb sb : Nat) (hm : W.cell? ⟨mb, 0, none⟩ = some (.pointer (some ⟨f, 0, none⟩))) {s : ByteArray} (hv : W.cell? ⟨sb, 0, none⟩ = some (.string s)) (hz : W.frozen? ⟨sb, 0, none⟩ = false) (hsb : sb ≠ fb ∧ sb ≠ f)
    (pg fl : Int) (at_ k fr : Nat) (hat : at_ < 64) (hk : at_ + k ≤ 64) (hks : k ≤ s.size) (hfr : fr < M.n) (hR : 0 < M.R fr) :
    Calls Try.prog 79 #[.agg #[.int .i64 pg, .int .i64 at_, .int .i64 k], .int .i64 fr, .int .i64 fl, .pointer (some ⟨mb, 0, none⟩), .pointer (some ⟨sb, 0, none⟩)] W fun e W' => e = .returned (.int .i64 0) ∧
      MemAt W' f fb (M.wr fr at_ (s.extract 0 k)) ∧ W'.cell? ⟨sb, 0, none⟩ = some (.string (s.extract k s.size)) ∧ W'.frozen? ⟨sb, 0, none⟩ = false ∧ Same (fun b => b = fb ∨ b = sb) W W' := by
  have hlt := World.block_lt_of_cell? _ _ hm
  have hlt2 := World.block_lt_of_cell? _ _ hv
  have hltM := hM.lt
  simp only at hlt hlt2
  have hks' : (k : Int) ≤ s.size := by omega
  have s1 : ∀ w : World, (Instr.slice 9 (.string s) none (some (.int .i64 (k : Int))) none).run Try.prog w = .ok (.string (s.extract 0 k)) w := by
    intro w; rw [run_slice_string_h w 9 s Try.underlying9 .i64 (k : Int) (by omega) (by omega)]; rfl
  have s2 : ∀ w : World, (Instr.slice 9 (.string s) (some (.int .i64 (k : Int))) none none).run Try.prog w = .ok (.string (s.extract k s.size)) w := by
    intro w; rw [run_slice_string_l w 9 s Try.underlying9 .i64 (k : Int) (by omega) (by omega)]; rfl
  have hsA : Same (fun _ => False) W (W.alloc (.cells #[.int .i64 pg, .int .i64 at_, .int .i64 k] 140)).drew := (same_alloc _).drew
  have hz1 : (s.extract 0 k).size = k := by rw [ByteArray.size_extract]; omega
  have hwr := write_ok (hM.same0 hsA) fr at_ (s.extract 0 k) hfr hR hat (by omega)
  have HWR := Lib.hid hwr
  obtain ⟨S, hS⟩ : ∃ S, S = s.extract 0 k := ⟨_, rfl⟩
  obtain ⟨S2, hS2⟩ : ∃ S2, S2 = s.extract k s.size := ⟨_, rfl⟩
  rw [← hS] at s1 HWR ⊢
  rw [← hS2] at s2 ⊢
  have hsA0 : Same (fun _ => False) W (W.alloc (.cells #[.int .i64 pg, .int .i64 at_, .int .i64 k] 140)) := same_alloc _
  have a0 := hsA0.cell hm (fun h => h)
  have a1 := hsA0.cell hv (fun h => h)
  have a2 := hsA0.unfrozen hv hz (fun h => h)
  obtain ⟨WA, hWA⟩ : ∃ WA, WA = W.alloc (.cells #[.int .i64 pg, .int .i64 at_, .int .i64 k] 140) := ⟨_, rfl⟩
  have p1 : WA.cell? ⟨W.heap.size, 1, none⟩ = some (.int .i64 at_) := by rw [hWA]; simp
  have p2 : WA.cell? ⟨W.heap.size, 2, none⟩ = some (.int .i64 k) := by rw [hWA]; simp
  rw [← hWA] at hsA hsA0 HWR a0 a1 a2
  clear hwr hz1 hS hS2 hM
  go_enter Try.func79, Try.ntmps79
  go_wp2_with fail
  rw [← hWA]
  clear hWA
  go_still_tail 8, (by kernel_rfl)
  go_wp2_with fail
  refine HWR.out.mono ?_
  rintro e W2 ⟨rfl, hM2, hs2⟩
  have b1 := hs2.cell (show WA.drew.cell? _ = _ from a1) (by simp; omega)
  have b2 := hs2.unfrozen (show WA.drew.cell? _ = _ from a1) a2 (by simp; omega)
  have b3 : W2.cell? ⟨W.heap.size, 2, none⟩ = some (.int .i64 k) := hs2.cell (show WA.drew.cell? _ = _ from p2) (by simp; omega)
  have HM2 := Lib.hid hM2
  have hz2 := World.block_lt_of_cell? _ _ b3
  have hs3 : Same (fun b => b = fb ∨ b = sb) W W2 := (hsA.mono (fun _ _ h => h.elim)).trans (hs2.mono (fun _ _ h => .inl h))
  clear hM2 hs2 a0 a1 a2
  go_wp2
  go_ret
  exact ⟨rfl, HM2.out.same ((Same.refl (· = sb) _).setCell _ (.inr rfl)) (by omega) (by omega), World.cell?_setCell_same _ _ _ b1, by simpa using b2, hs3.setCell _ (.inr (.inr rfl))⟩
end Go.Proofs.Ytlbgnmcjdmdjpaa
namespace Go.Proofs.Ytlbgnmcjdmdjpaa
open Go.RowKit Go.Shelf
attribute [local go_sem] Oper.semAt_some

theorem ext_get (A : ByteArray) (i j x : Nat) (hj : j ≤ A.size) : (A.extract i j).data.toList[x]? = if x < j - i then A.data.toList[i + x]? else none := by
  rw [ByteArray.data_extract, Array.toList_extract, List.extract_eq_take_drop, List.getElem?_take]
  split
  · rw [List.getElem?_drop]
  · rfl
theorem ext_ext (s : ByteArray) (i k : Nat) (h : i + k ≤ s.size) : (s.extract i s.size).extract 0 k = s.extract i (i + k) ∧ (s.extract i s.size).extract k (s.extract i s.size).size = s.extract (i + k) s.size := by
  have hz : (s.extract i s.size).size = s.size - i := by rw [ByteArray.size_extract]; omega
  constructor
  · apply bytes_ext
    intro j
    rw [ext_get (s.extract i s.size) 0 k j (by omega), ext_get s i (i + k) j (by omega)]
    by_cases hj : j < k
    · rw [if_pos (by omega), if_pos (by omega), ext_get s i s.size _ (by omega), if_pos (by omega)]
      rw [Nat.zero_add]
    · rw [if_neg (by omega), if_neg (by omega)]
  · apply bytes_ext
    intro j
    rw [ext_get (s.extract i s.size) k (s.extract i s.size).size j (by omega), ext_get s (i + k) s.size j (by omega), hz]
    by_cases hj : j < s.size - i - k
    · rw [if_pos (by omega), if_pos (by omega), ext_get s i s.size _ (by omega), if_pos (by omega), Nat.add_assoc]
    · rw [if_neg (by omega), if_neg (by omega)]
theorem ext_all (s : ByteArray) : s.extract 0 s.size = s := by
  apply bytes_ext
  intro j
  rw [ext_get _ _ _ _ (by omega)]
  by_cases hj : j < s.size - 0
  · rw [if_pos hj, Nat.zero_add]
  · rw [if_neg hj, List.getElem?_eq_none]
    rw [Array.length_toList]
    show s.size ≤ j
    omega

theorem out_span {w : World} {f fb : Nat} {M : Mm} {r : Nat} {T : Nat → Option Nat} {cu : Nat} (hM : MemAt w f fb M) (ht : M.Tree r T cu) (hd : M.Data r T) (a0 : Nat) (s : ByteArray) (hle : a0 + s.size ≤ 16384) (hok : ∀ i, a0 ≤ i → i < a0 + s.size → M.okB r true i) (mb sb : Nat)
    (hm : w.cell? ⟨mb, 0, none⟩ = some (.pointer (some ⟨f, 0, none⟩))) (ho : w.cell? ⟨sb, 0, none⟩ = some (.string s)) (hz : w.frozen? ⟨sb, 0, none⟩ = false) (hd1 : sb ≠ mb) (hd2 : sb ≠ f) (hd3 : sb ≠ fb) (hd4 : mb ≠ fb) :
    Calls Try.prog 76 #[.pointer (some ⟨f, 0, none⟩), .int .i64 r, .int .i64 a0, .int .i64 s.size, .func (.func 79) #[] #[.pointer (some ⟨mb, 0, none⟩), .pointer (some ⟨sb, 0, none⟩)]] w fun e W =>
      e = .returned (.int .i64 0) ∧ ∃ M', MemAt W f fb M' ∧ OutR M M' r T a0 (a0 + s.size) s ∧ Same (fun b => b = fb ∨ b = sb) w W := by
  have hlt := hM.lt
  have hmb := World.block_lt_of_cell? _ _ hm
  have hob := World.block_lt_of_cell? _ _ ho
  simp only at hmb hob
  refine (each_any w f fb r a0 s.size M (by omega) 79 #[.pointer (some ⟨mb, 0, none⟩), .pointer (some ⟨sb, 0, none⟩)] (enters_of Try.func79 (by kernel_rfl) rfl)
    (fun hi a n M' W => MemAt W f fb M' ∧ OutR M M' r T a0 a s ∧ a0 ≤ a ∧ a + n = a0 + s.size ∧ W.cell? ⟨mb, 0, none⟩ = some (.pointer (some ⟨f, 0, none⟩)) ∧ W.cell? ⟨sb, 0, none⟩ = some (.string (s.extract (a - a0) s.size)) ∧ W.frozen? ⟨sb, 0, none⟩ = false ∧
      Same (fun b => b = fb ∨ b = sb) w W)
    (fun hi er W => False) ?_ ?_ ?_ ?_ ?_ ?_).mono ?_
  · rintro hi a n M' W ⟨h1, _⟩
    exact h1
  · rintro hi a n M' W W' ⟨h1, h2, h3, h4, h5, h6, h7, h8⟩ hs
    exact ⟨h1.same hs (by omega) (by omega), h2, h3, h4, hs.cell h5 (by simp; omega), hs.cell h6 (by simp; omega), hs.unfrozen h6 h7 (by simp; omega), h8.trans' hs (fun k hk hkw => by omega)⟩
  · rintro hi er W W' h _
    exact h
  · rintro hi a n M' W hn1 ⟨h1, h2, h3, h4, _⟩ hw
    rw [h2.tab.walk ht] at hw
    exact hw (hok a h3 (by omega)).1
  · rintro hi a n M' W0 W hn1 hle2 ⟨h1, h2, h3, h4, h5, h6, h7, h8⟩ hhi hs hw
    obtain ⟨k1, k2, k3⟩ := pk_pos (a := a) hn1
    rw [h2.tab.walk ht] at hw ⊢
    obtain ⟨fr, hfr, hfr2, hR, hfr3, hfr4⟩ := hd.fr _ hw
    have hz0 := h8.size
    rw [hfr]
    rw [show ((a : Int) % 64) = ((a % 64 : Nat) : Int) by omega]
    have hx := ext_ext s (a - a0) (pk a n) (by omega)
    have hxz : (s.extract (a - a0) s.size).size = s.size - (a - a0) := by rw [ByteArray.size_extract]; omega
    refine (clo79 (h1.same hs (by omega) (by omega)) mb sb (hs.cell h5 (by simp; omega)) (hs.cell h6 (by simp; omega)) (hs.unfrozen h6 h7 (by simp; omega)) ⟨hd3, hd2⟩ _ _ (a % 64) (pk a n) fr (by omega) k3 (by omega) (by rw [h2.tab.n]; exact hfr2) (by rw [h2.tab.R]; exact hR)).mono ?_
    rintro e W' ⟨rfl, g1, g2, g3, g4⟩
    rw [hx.1] at g1
    rw [hx.2] at g2
    have hst := h2.step ht hd h3 k3 k1 (by omega) hw hfr
    refine ⟨.inl ⟨rfl, _, g1, hst, by omega, by omega, g4.cell (hs.cell h5 (by simp; omega)) (by simp; omega), ?_, g3, (h8.trans' hs (fun k hk hkw => by omega)).trans g4⟩, g4.mono (fun b hb h => by omega)⟩
    rw [g2, show a + pk a n - a0 = a - a0 + pk a n by omega]
  · intro W1 hs
    refine ⟨hM.same0 hs, OutR.zero a0 s, Nat.le_refl _, rfl, hs.cell hm (by simp), ?_, hs.unfrozen ho hz (by simp), hs.mono (fun _ _ h => h.elim)⟩
    rw [Nat.sub_self, ext_all]
    exact hs.cell ho (by simp)
  · rintro e W (⟨rfl, hi, a, M', h1, h2, h3, h4, h5, h6, h7, h8⟩ | ⟨er, hi, her, rfl, h⟩)
    · have : a = a0 + s.size := by omega
      subst this
      exact ⟨rfl, M', h1, h2, h8⟩
    · exact h.elim

theorem out_nil (w : World) (root addr : Int) (s : ByteArray) : Calls Try.prog 43 #[.pointer none, .int .i64 root, .int .i64 addr, .string s] w fun e w' => e = .returned (.int .i64 1) ∧ Same (fun _ => False) w w' := by
  go_enter Try.func43, Try.ntmps43
  go_wp2_with fail
  refine (check_nil_c _ root addr s.size true).mono ?_
  rintro e w1 ⟨rfl, hs1⟩
  go_wp2
  go_ret
  exact ⟨rfl, ((same_alloc _).alloc _).trans hs1⟩
theorem out_bad {w : World} {f fb : Nat} {M : Mm} (hM : MemAt w f fb M) (root addr : Int) (s : ByteArray) (ha : In64 addr) (hs : s.size ≤ 9223372036854775807) (hu : M.isUsed root = false) :
    Calls Try.prog 43 #[.pointer (some ⟨f, 0, none⟩), .int .i64 root, .int .i64 addr, .string s] w fun e w' => e = .returned (.int .i64 10) ∧ Same (fun _ => False) w w' := by
  have hck := check_c (hM.same0 ((same_alloc (.cells #[.pointer (some ⟨f, 0, none⟩)] 24)).alloc (.cells #[.string s] 9))) root addr s.size true ha (by unfold In64; omega)
  have HU := Lib.hid hu
  clear hM hu
  go_enter Try.func43, Try.ntmps43
  go_wp2_with fail
  refine hck.mono ?_
  rintro e w1 ⟨er, rfl, hcr, hs1⟩
  have he : er = 10 := by
    have hu := HU.out
    rcases hcr with ⟨_, h⟩ | ⟨h, _⟩ | ⟨h, _⟩ | ⟨h, _⟩
    · exact h
    all_goals (rw [hu] at h; cases h)
  subst he
  clear hcr
  go_wp2
  go_ret
  exact ⟨rfl, ((same_alloc _).alloc _).trans hs1⟩

set_option maxHeartbeats 3200000 in
set_option maxRecDepth 8192 in
theorem out_c {w : World} {f fb : Nat} {M : Mm} {r : Nat} {T : Nat → Option Nat} {cu : Nat} (hM : MemAt w f fb M) (ht : M.Tree r T cu) (hd : M.Data r T) (addr : Int) (s : ByteArray) (ha : In64 addr) (hs : s.size ≤ 9223372036854775807) :
    Calls Try.prog 43 #[.pointer (some ⟨f, 0, none⟩), .int .i64 r, .int .i64 addr, .string s] w fun e w' => ∃ er M', e = .returned (.int .i64 er) ∧ ChkR M r addr s.size true er ∧ MemAt w' f fb M' ∧
      ((er ≠ 0 ∧ M' = M) ∨ (er = 0 ∧ 0 ≤ addr ∧ OutR M M' r T addr.toNat (addr.toNat + s.size) s)) ∧ Same (· = fb) w w' := by
  have hlt := hM.lt
  have hsA : Same (fun _ => False) w ((w.alloc (.cells #[.pointer (some ⟨f, 0, none⟩)] 24)).alloc (.cells #[.string s] 9)) := (same_alloc _).alloc _
  have hck := check_c (hM.same0 hsA) r addr s.size true ha (by unfold In64; omega)
  have H := Lib.hid hM
  have HT := Lib.hid ht
  have HD := Lib.hid hd
  clear hM ht hd
  go_enter Try.func43, Try.ntmps43
  go_wp2_with fail
  refine hck.mono ?_
  rintro e w1 ⟨er, rfl, hcr, hs1⟩
  have HCR := Lib.hid hcr
  have b0 := hs1.cell (a := ⟨w.heap.size, 0, none⟩) (v := .pointer (some ⟨f, 0, none⟩)) (by simp) (by simp)
  have b1 := hs1.cell (a := ⟨w.heap.size + 1, 0, none⟩) (v := .string s) (by simp [go_sem]) (by simp)
  have b2 := hs1.unfrozen (a := ⟨w.heap.size + 1, 0, none⟩) (v := .string s) (by simp [go_sem]) (by simp [go_sem]) (by simp)
  have hsw : Same (fun _ => False) w w1 := hsA.trans hs1
  clear hck hs1
  by_cases hz : er = 0
  · subst hz
    have hok : ∃ a : Nat, addr = a ∧ a + s.size ≤ 16384 ∧ ∀ i, a ≤ i → i < a + s.size → M.okB r true i := by
      rcases hcr with ⟨_, h⟩ | ⟨_, _, h⟩ | ⟨_, _, _, _, h⟩ | ⟨_, a, k, h1, h2, h3, h4, ⟨_, h5⟩ | ⟨h5, _⟩⟩
      · omega
      · omega
      · omega
      · obtain rfl : s.size = k := by omega
        exact ⟨a, h1, h4, h5⟩
      · omega
    obtain ⟨a, rfl, hle, hok⟩ := hok
    have hsp := out_span (H.out.same0 hsw) HT.out HD.out a s hle hok w.heap.size (w.heap.size + 1) b0 b1 b2 (by omega) (by omega) (by omega) (by omega)
    have HSP := Lib.hid hsp
    clear hcr hok hsp
    go_wp2_with fail
    refine HSP.out.mono ?_
    rintro e w2 ⟨rfl, M', h1, h2, h3⟩
    have HM2 := Lib.hid h1
    have HO := Lib.hid h2
    have hs3 : Same (· = fb) w w2 := (hsw.mono (T := (· = fb)) (fun _ _ h => h.elim)).trans' h3 (fun b hb hbw => by omega)
    clear h1 h2 h3
    go_wp2
    go_ret
    exact ⟨0, M', rfl, HCR.out, HM2.out, .inr ⟨rfl, by omega, by rw [Int.toNat_natCast]; exact HO.out⟩, hs3⟩
  · have hb : (er != 0) = true := by simpa using hz
    have HZ := Lib.hid hz
    clear hz hcr
    go_wp2
    go_ret
    exact ⟨er, M, rfl, HCR.out, H.out.same0 hsw, .inl ⟨HZ.out, rfl⟩, hsw.mono (fun _ _ h => h.elim)⟩
end Go.Proofs.Ytlbgnmcjdmdjpaa
namespace Go.Proofs.Ytlbgnmcjdmdjpaa
open Go.RowKit

theorem Mm.Tree.alloc {M : Mm} {r : Nat} {T : Nat → Option Nat} {cu : Nat} (h : M.Tree r T cu) {k : Nat} (hk : k < M.n) (hz : M.R k ≤ 0) : (M.alloc k).Tree r T (cu + 1) := by
  have hkr : k ≠ r := by intro e; subst e; have := h.rR; omega
  have hkT : ∀ x y, T x = some y → y ≠ k := by intro x y hx e; subst e; have := (h.tb _ _ hx).2.2.2; omega
  have E : ∀ x y, x ≠ k → (M.alloc k).ent x y = M.ent x y := fun x y hx => by rw [Mm.alloc_ent, if_neg hx]
  have R1 : ∀ x, (M.alloc k).R x = if x = k then 1 else M.R x := fun x => rfl
  refine ⟨h.n2, h.rn, by rw [R1, if_neg (Ne.symm hkr)]; exact h.rR, fun i y hy => ?_, h.inj, fun i hi hn => by rw [E _ _ (Ne.symm hkr)]; exact h.top0 i hi hn, fun i y hy => by rw [E _ _ (Ne.symm hkr)]; exact h.top1 i y hy,
    fun i y j hy hj => by rw [E _ _ (hkT i y hy)]; exact h.low i y j hy hj, fun i y hy => ?_, ?_⟩
  · obtain ⟨a, b, c, d⟩ := h.tb i y hy
    exact ⟨a, b, c, by rw [R1, if_neg (hkT i y hy)]; exact d⟩
  · obtain ⟨j, hj, hj2⟩ := h.ne i y hy
    exact ⟨j, hj, by rw [E _ _ (hkT i y hy)]; exact hj2⟩
  · have b1 := nfree_take (R := M.R) (R' := (M.alloc k).R) (n := M.n) hk (by omega) (by rw [R1, if_pos rfl]; decide) (fun x hx => by rw [R1, if_neg hx])
    have c := h.cnt
    show nfree (M.alloc k).R M.n + (cu + 1) + tcnt T 16 = M.n
    omega
theorem Mm.Tree.alloc_lk {M : Mm} {r : Nat} {T : Nat → Option Nat} {cu : Nat} (h : M.Tree r T cu) {k : Nat} (hk : k < M.n) (hz : M.R k ≤ 0) {p : Nat} (hp : p < 256) : (M.alloc k).lk r p = M.lk r p := by
  rw [Mm.lk_tree (h.alloc hk hz) hp, Mm.lk_tree h hp]
  cases hT : T (p / 16) with
  | none => rfl
  | some y =>
    have : y ≠ k := by intro e; subst e; have := (h.tb _ _ hT).2.2.2; omega
    simp only
    rw [Mm.alloc_ent, if_neg this]
theorem Mm.Tree.alloc_walk {M : Mm} {r : Nat} {T : Nat → Option Nat} {cu : Nat} (h : M.Tree r T cu) {k : Nat} (hk : k < M.n) (hz : M.R k ≤ 0) (p : Int) : (M.alloc k).walk r p = M.walk r p := by
  by_cases hp : 0 ≤ p ∧ p ≤ 255
  · obtain ⟨q, rfl⟩ := Int.eq_ofNat_of_zero_le hp.1
    rw [h.walk (p := q) (by omega), (h.alloc hk hz).walk (p := q) (by omega), h.alloc_lk hk hz (by omega)]
  · rw [h.walk_out hp, (h.alloc hk hz).walk_out hp]
theorem nfree_zero {R : Nat → Int} : ∀ n : Nat, (∀ i, i < n → 0 < R i) → nfree R n = 0
  | 0, _ => rfl
  | n + 1, h => by simp only [nfree, nfree_zero n (fun i hi => h i (by omega))]; rw [if_pos (h n (by omega))]
theorem tcnt_le (T : Nat → Option Nat) : ∀ n, tcnt T n ≤ n
  | 0 => Nat.le_refl _
  | n + 1 => by simp only [tcnt]; have := tcnt_le T n; split <;> omega
/-- One page more, of a frame of its own. -/
def Mm.lay (M : Mm) (p : Int) (ro : Bool) : Mm := match M.least with
  | none => M
  | some k => ((M.alloc k).map 0 p k (if ro then 1 else 3)).1
/-- Behind i pages. -/
def laidN (g : Nat → Int × Bool) : Nat → Mm
  | 0 => (Mm.mk 60 (fun _ => 0) (fun _ _ => 0)).alloc 0
  | i + 1 => (laidN g i).lay (g i).1 (g i).2
/-- The pages' flags. -/
def Mm.Flags (M : Mm) : Prop := ∀ p : Int, (M.walk 0 p).2.2 = 0 → (M.walk 0 p).2.1 = 1 ∨ (M.walk 0 p).2.1 = 3
structure Mm.Laid (M : Mm) (cu : Nat) : Prop where
  ex : ∃ T, M.Tree 0 T cu ∧ M.Data 0 T
  n : M.n = 60
  fl : M.Flags
theorem Mm.Laid.room {M : Mm} {cu : Nat} (h : M.Laid cu) (hc : cu ≤ 40) : ¬ ∀ i, i < M.n → 0 < M.R i := by
  intro hall
  obtain ⟨T, ht, _⟩ := h.ex
  have c := ht.cnt
  rw [nfree_zero _ hall] at c
  have := tcnt_le T 16
  have := h.n
  omega
theorem Mm.Laid.zero : ((Mm.mk 60 (fun _ => 0) (fun _ _ => 0)).alloc 0).Laid 1 := by
  have ht := Mm.tree_new 60 (by omega) (by omega)
  have hw : ∀ p : Int, (((Mm.mk 60 (fun _ => 0) (fun _ _ => 0)).alloc 0).walk (0 : Nat) p).2.2 ≠ 0 := by
    intro p
    by_cases hp : 0 ≤ p ∧ p ≤ 255
    · obtain ⟨q, rfl⟩ := Int.eq_ofNat_of_zero_le hp.1
      rw [ht.walk (p := q) (by omega), Mm.lk_tree ht (by omega)]
      simp
    · rw [ht.walk_out hp]; decide
  exact ⟨⟨_, ht, ⟨fun p hp => absurd hp (hw p), fun p q hp => absurd hp (hw p)⟩⟩, rfl, fun p hp => absurd hp (hw p)⟩
theorem Mm.Laid.step {M : Mm} {cu : Nat} (h : M.Laid cu) {k : Nat} (hl : M.least = some k) (p : Int) (ro : Bool) : (M.lay p ro).Laid (cu + 1) ∧ M.lay p ro = ((M.alloc k).map 0 p k (if ro then 1 else 3)).1 := by
  have he : M.lay p ro = ((M.alloc k).map 0 p k (if ro then 1 else 3)).1 := by unfold Mm.lay; rw [hl]
  refine ⟨?_, he⟩
  rw [he]
  obtain ⟨T, ht, hd⟩ := h.ex
  obtain ⟨hk, hz, _⟩ := Mm.least_spec hl
  have ht1 := ht.alloc hk hz
  have hw1 : ∀ p : Int, (M.alloc k).walk (0 : Nat) p = M.walk (0 : Nat) p := fun p => ht.alloc_walk hk hz p
  have hT1 : ∀ i y, T i = some y → y ≠ k := by intro x y hx e; subst e; have := (ht.tb _ _ hx).2.2.2; omega
  have R1 : ∀ x, (M.alloc k).R x = if x = k then 1 else M.R x := fun x => rfl
  have hd1 : (M.alloc k).Data 0 T := by
    refine ⟨fun q hq => ?_, fun q q' => by rw [hw1, hw1]; exact hd.inj q q'⟩
    rw [hw1] at hq ⊢
    obtain ⟨y, h1, h2, h3, h4, h5⟩ := hd.fr q hq
    exact ⟨y, h1, h2, by rw [R1]; split <;> omega, h4, h5⟩
  have hk0 : k ≠ 0 := by intro e; subst e; have := ht.rR; omega
  generalize hfl : (if ro = true then (1 : Int) else 3) = fl
  have hfl2 : fl = 1 ∨ fl = 3 := by cases ro <;> simp at hfl <;> omega
  have hn60 : (M.alloc k).n = 60 := h.n
  have hfl1 : (M.alloc k).Flags := by
    intro q hq
    have := hw1 q
    rw [show ((0 : Nat) : Int) = 0 from rfl] at this
    rw [this] at hq ⊢
    exact h.fl q hq
  have hml := Mm.map_law ht1 p (k : Int) fl
  have hrk : (M.alloc k).R k = 1 := by rw [R1, if_pos rfl]
  have hold : ∀ q : Int, ((M.alloc k).walk (0 : Nat) q).2.2 = 0 → ((M.alloc k).walk (0 : Nat) q).1 ≠ k := by
    intro q hq e
    rw [hw1] at hq e
    obtain ⟨y, h1, h2, h3, _⟩ := hd.fr q hq
    have : y = k := by omega
    subst this
    omega
  rw [show ((0 : Nat) : Int) = 0 from rfl] at hml
  rcases hml with ⟨_, h2⟩ | ⟨_, x, rfl, hx, hf0, hlk0, ⟨T', ht', hkp⟩, hn', hlk, hoth⟩
  · rw [h2]
    exact ⟨⟨T, ht1, hd1⟩, hn60, hfl1⟩
  · generalize (M.alloc k).map 0 (x : Int) (k : Int) fl = MM at *
    have hwx : MM.1.walk (0 : Nat) (x : Int) = ((k : Int), fl, 0) := by
      rw [ht'.walk hx]
      rw [show ((0 : Nat) : Int) = 0 from rfl, hlk, if_neg hf0]
    have hwo : ∀ q : Int, q ≠ x → MM.1.walk (0 : Nat) q = (M.alloc k).walk (0 : Nat) q := by
      intro q hq
      by_cases hr : 0 ≤ q ∧ q ≤ 255
      · obtain ⟨y, rfl⟩ := Int.eq_ofNat_of_zero_le hr.1
        have := hoth y (by omega) (by omega)
        rw [ht'.walk (p := y) (by omega), ht1.walk (p := y) (by omega), show ((0 : Nat) : Int) = 0 from rfl, this]
      · rw [ht'.walk_out hr, ht1.walk_out hr]
    have hkT' : ∀ i, T' i ≠ some k := by
      intro i hi
      rcases hkp.keepT i k hi with h | h
      · exact hT1 i k h rfl
      · rw [hrk] at h; exact h (by decide)
    refine ⟨⟨T', ht', ⟨fun q hq => ?_, fun q q' hq hq' hqq => ?_⟩⟩, hn'.trans hn60, fun q hq => ?_⟩
    · by_cases e : q = x
      · subst e
        rw [hwx]
        exact ⟨k, rfl, by rw [hn']; exact hk, by rw [hkp.keepR k (by rw [hrk]; decide) (fun i hi => hT1 i k hi rfl), hrk]; decide, hk0, hkT'⟩
      · rw [hwo q e] at hq ⊢
        obtain ⟨y, h1, h2, h3, h4, h5⟩ := hd1.fr q hq
        refine ⟨y, h1, by rw [hn']; exact h2, by rw [hkp.keepR y h3 h5]; exact h3, h4, fun i hi => ?_⟩
        rcases hkp.keepT i y hi with h | h
        · exact h5 i h
        · exact h h3
    · by_cases e : q = x <;> by_cases e' : q' = x
      · omega
      · exfalso
        subst e
        rw [hwx, hwo q' e'] at hqq
        rw [hwo q' e'] at hq'
        exact hold q' hq' hqq.symm
      · exfalso
        subst e'
        rw [hwx, hwo q e] at hqq
        rw [hwo q e] at hq
        exact hold q hq hqq
      · rw [hwo q e] at hq hqq
        rw [hwo q' e'] at hq' hqq
        exact hd1.inj q q' hq hq' hqq
    · by_cases e : q = x
      · subst e
        rw [show ((0 : Nat) : Int) = 0 from rfl] at hwx
        rw [hwx]
        exact hfl2
      · have := hwo q e
        rw [show ((0 : Nat) : Int) = 0 from rfl] at this
        rw [this] at hq ⊢
        exact hfl1 q hq
end Go.Proofs.Ytlbgnmcjdmdjpaa
namespace Go.Proofs.Ytlbgnmcjdmdjpaa
open Go.RowKit Go.Shelf
attribute [local go_sem] Oper.semAt_some

theorem results_four {fn : Func} {t u v x : Tmp} (h : fn.results = #[.tmp t, .tmp u, .tmp v, .tmp x]) (tmps : Array Value) (P : Program) (w : World) :
    (results fn tmps).run P w = .ok (.tuple #[tmps.getD t undef, tmps.getD u undef, tmps.getD v undef, tmps.getD x undef]) w := by
  simp [results, h, Sem.run_bind, Result.andThen]
theorem bits_in64 (op : BinOp) (a b : Int) : In64 (bits op .i64 a b) := by
  have := bits_within op .i64 a b
  unfold In64
  simp [IntKind.min, IntKind.max, IntKind.signed, IntKind.bits] at this
  omega

set_option maxHeartbeats 6400000 in
set_option maxRecDepth 16384 in
theorem laid_any (w : World) (a : Option Addr) (len cap : Nat) (b : Option Addr) (len2 cap2 : Nat) (gp : Nat → Int) (gb : Nat → Bool) (hlen : len ≤ 9223372036854775807) (hlen2 : len2 ≤ 9223372036854775807)
    (ha : ∀ i, i < len → ∃ x, a = some x ∧ w.cell? (x.add i) = some (.int .i64 (gp i))) (hb : ∀ i, i < len2 → ∃ x, b = some x ∧ w.cell? (x.add i) = some (.bool (gb i))) :
    Calls Try.prog 40 #[.slice a len cap, .slice b len2 cap2] w fun e w' => ∃ f fb r, e = .returned (.tuple #[.pointer (some ⟨f, 0, none⟩), .pointer (some ⟨r, 0, none⟩), .int .i64 0, .bool true]) ∧ w.heap.size ≤ f ∧ w.heap.size ≤ fb ∧
      MemAt w' f fb (laidN (fun i => (bits .and .i64 (gp i) 255, decide (i < len2) && gb i)) (min len 30)) ∧ (laidN (fun i => (bits .and .i64 (gp i) 255, decide (i < len2) && gb i)) (min len 30)).Laid (min len 30 + 1) ∧ Same (fun _ => False) w w' := by
  have HA := Lib.hid ha
  have HB := Lib.hid hb
  clear ha hb
  obtain ⟨G, hG⟩ : ∃ G : Nat → Int × Bool, G = fun i => (bits .and .i64 (gp i) 255, decide (i < len2) && gb i) := ⟨_, rfl⟩
  rw [← hG]
  have HG := Lib.hid hG
  clear hG
  go_enter Try.func40, Try.ntmps40
  go_wp2_with fail
  refine (new_any _ 60 (by omega) (by omega)).mono ?_
  rintro e w2 ⟨f, fb, rfl, hf, hfb, hM, hs2⟩
  have hlt2 := hM.lt
  have hsz2 := hs2.size
  go_wp2_with fail
  refine (rnew_any _ 60 (by omega) (by omega)).mono ?_
  rintro e w3 ⟨r, rb, rr, rfl, hr, hrb, hrr, hA, hs3⟩
  have hM3 := hM.same0 hs3
  go_wp2_with fail
  refine (root_any hM3).mono ?_
  rintro e w4 (⟨hall, -, -, -⟩ | ⟨k, hk, hz, hbel, rfl, hMA, hs4⟩)
  · have := hall 0 (by simp)
    simp at this
  obtain rfl : k = 0 := by
    rcases Nat.eq_zero_or_pos k with h | h
    · exact h
    · have := hbel 0 h; simp at this
  have hA4 := hA.same hs4 (by omega) (by omega) (by omega)
  clear hbel hz hk
  go_wp2_with fail
  refine (rroot_any hA4).mono ?_
  rintro e w5 (⟨hall, -, -, -⟩ | ⟨k, hk, hz, hbel, rfl, hA5, hs5⟩)
  · have := hall 0 (by simp)
    simp at this
  obtain rfl : k = 0 := by
    rcases Nat.eq_zero_or_pos k with h | h
    · exact h
    · have := hbel 0 h; simp at this
  have hM5 := hMA.same hs5 (by omega) (by omega)
  have hsw : Same (fun k => w.heap.size ≤ k) w w5 := (((hs2.trans hs3).mono (fun _ _ h => h.elim)).trans (hs4.mono (fun k _ h => by omega))).trans (hs5.mono (fun k _ h => by omega))
  have HM5 := Lib.hid hM5
  have HA5 := Lib.hid hA5
  clear hbel hz hk hM hA hM3 hA4 hMA hs2 hs3 hs4 hs5 hM5 hA5
  go_wp2
  go_loopw [16] (fun v16 wr => ∃ i : Nat, i ≤ len ∧ i ≤ 30 ∧ v16 = .int .i64 i ∧ MemAt wr f fb (laidN G i) ∧ RefAt wr r rb rr (laidN G i) ∧ (laidN G i).Laid (i + 1) ∧ Same (fun k => w.heap.size ≤ k) w wr) (fun v16 _ => len - (intOf v16).toNat)
  case atStart => exact ⟨0, by omega, by omega, rfl, HM5.out, HA5.out, Mm.Laid.zero, hsw⟩
  case round =>
    obtain ⟨i, hi1, hi2, rfl, hMi, hAi, hLi, hsi⟩ := hrel
    have hsu : laidN G (i + 1) = (laidN G i).lay (bits .and .i64 (gp i) 255) (decide (i < len2) && gb i) := by rw [laidN, HG.out]
    have hMi' := hMi
    have hLi' := hLi
    generalize laidN G i = M at hMi hAi hLi hsu
    by_cases hik : i < len ∧ i < 30
    · obtain ⟨hlt, hlt30⟩ := hik
      have hil : (i : Int) < len := by omega
      have hi30 : (i : Int) < 30 := by omega
      obtain ⟨x, hax, hcx⟩ := HA.out i hlt
      have hxl := World.block_lt_of_cell? _ _ hcx
      have c1 := hsi.cell hcx (fun h => by omega)
      have hroom := hLi.room (by omega)
      have HL := Lib.hid hLi
      have HSU := Lib.hid hsu
      have hltM := hMi.lt
      subst hax
      clear hcx hsu hLi
      go_wp2_with fail
      refine (alloc_any hMi).mono ?_
      rintro e w6 (⟨hall, -, -, -⟩ | ⟨k, hk, hz, hbel, rfl, hM6, hs6⟩)
      · exact absurd hall hroom
      have hA6 := hAi.same hs6 (by omega) (by omega) (by omega)
      have hleast := Mm.least_some hk hz hbel
      go_wp2_with fail
      refine (ralloc_any hA6).mono ?_
      rintro e w7 (⟨hall, -, -, -⟩ | ⟨k', hk', hz', hbel', rfl, hA7, hs7⟩)
      · exact absurd hall hroom
      obtain rfl : k = k' := by
        have := Mm.least_some hk' hz' hbel'
        rw [hleast] at this
        exact Option.some.inj this
      have hM7 := hM6.same hs7 (by omega) (by omega)
      have hs8 : Same (fun k => w.heap.size ≤ k) w w7 := (hsi.trans (hs6.mono (fun k _ h => by omega))).trans (hs7.mono (fun k _ h => by omega))
      have c7 := (hs6.cell c1 (fun h => by omega))
      have c7 := hs7.cell c7 (fun h => by omega)
      obtain ⟨T, ht, hd⟩ := HL.out.ex
      have hcl := (ht.alloc hk hz).clean
      rw [show ((0 : Nat) : Int) = 0 from rfl] at hcl
      have HCL := Lib.hid hcl
      have HLE := Lib.hid hleast
      have hk256 : k < 60 := by have := HL.out.n; omega
      clear hbel hz hbel' hz' hk' hcl ht hd hleast hroom hs6 hs7 hMi hAi hM6 hA6 c1 hk hsi
      obtain ⟨ro, hro⟩ : ∃ ro : Bool, ro = (decide (i < len2) && gb i) := ⟨_, rfl⟩
      have hstep := HL.out.step HLE.out (bits .and .i64 (gp i) 255) ro
      have hnext : laidN G (i + 1) = ((M.alloc k).map 0 (bits .and .i64 (gp i) 255) k (if ro then 1 else 3)).1 := by rw [HSU.out, ← hro]; exact hstep.2
      have hlaid : (laidN G (i + 1)).Laid (i + 1 + 1) := by rw [HSU.out, ← hro]; exact hstep.1
      have HN := Lib.hid hnext
      have HLN := Lib.hid hlaid
      obtain ⟨pg, hpg⟩ : ∃ pg, pg = bits .and .i64 (gp i) 255 := ⟨_, rfl⟩
      have hpin : In64 pg := by rw [hpg]; exact bits_in64 _ _ _
      have HP := Lib.hid hpg
      clear hstep hnext hlaid hpg
      have fin : ∀ (fl er : Int) (w9 : World), fl = (if ro then 1 else 3) → MemAt w9 f fb ((M.alloc k).map 0 pg k fl).1 → RefAt w9 r rb rr ((M.alloc k).map 0 pg k fl).1 → Same (fun k => w.heap.size ≤ k) w7 w9 →
          Hid (MemAt w9 f fb (laidN G (i + 1)) ∧ RefAt w9 r rb rr (laidN G (i + 1)) ∧ Same (fun k => w.heap.size ≤ k) w w9) := by
        intro fl er w9 hfl h1 h2 h3
        rw [hfl, HP.out, ← HN.out] at h1 h2
        exact Lib.hid ⟨h1, h2, hs8.trans h3⟩
      have HFIN := Lib.hid @fin
      clear fin
      by_cases hl2 : i < len2
      · obtain ⟨y, hby, hcy⟩ := HB.out i hl2
        have hyl := World.block_lt_of_cell? _ _ hcy
        have c8 := hs8.cell hcy (fun h => by omega)
        subst hby
        have hil2 : (i : Int) < len2 := by omega
        have hrg : ro = gb i := by rw [hro]; simp [hl2]
        clear hcy hro
        cases hgb : gb i with
        | true =>
          rw [hgb] at c8 hrg
          subst hrg
          clear hgb
          have hbp := HP.out.symm
          go_wp2_with fail
          refine (map_any hM7 0 pg k 1 hpin).mono ?_
          rintro e w8 ⟨rfl, hM8, hs9⟩
          have hA8 := hA7.same hs9 (by omega) (by omega) (by omega)
          have c9 := hs9.cell c7 (fun h => by omega)
          go_wp2_with fail
          refine (rmap_any hA8 0 pg k 1 HCL.out).mono ?_
          rintro e w9 ⟨rfl, hA9, hs10⟩
          have HF := HFIN.out 1 0 w9 rfl (hM8.same hs10 (by omega) (by omega)) hA9 ((hs9.mono (T := fun k => w.heap.size ≤ k) (fun k _ h => by omega)).trans (hs10.mono (fun k _ h => by omega)))
          generalize ((M.alloc k).map 0 pg k 1).2 = er
          clear hM8 hA8 hA9 hs9 hs10 c8 c9 c7 hM7 hA7 HFIN hbp hs8
          go_wp2
          go_round
          case rel => exact ⟨i + 1, by omega, by omega, by go_num, HF.out.1, HF.out.2.1, HLN.out, HF.out.2.2⟩
          case measure => simp [intOf]; omega
        | false =>
          rw [hgb] at c8 hrg
          subst hrg
          clear hgb
          have hbp := HP.out.symm
          go_wp2_with fail
          refine (map_any hM7 0 pg k 3 hpin).mono ?_
          rintro e w8 ⟨rfl, hM8, hs9⟩
          have hA8 := hA7.same hs9 (by omega) (by omega) (by omega)
          have c9 := hs9.cell c7 (fun h => by omega)
          go_wp2_with fail
          refine (rmap_any hA8 0 pg k 3 HCL.out).mono ?_
          rintro e w9 ⟨rfl, hA9, hs10⟩
          have HF := HFIN.out 3 0 w9 rfl (hM8.same hs10 (by omega) (by omega)) hA9 ((hs9.mono (T := fun k => w.heap.size ≤ k) (fun k _ h => by omega)).trans (hs10.mono (fun k _ h => by omega)))
          generalize ((M.alloc k).map 0 pg k 3).2 = er
          clear hM8 hA8 hA9 hs9 hs10 c8 c9 c7 hM7 hA7 HFIN hbp hs8
          go_wp2
          go_round
          case rel => exact ⟨i + 1, by omega, by omega, by go_num, HF.out.1, HF.out.2.1, HLN.out, HF.out.2.2⟩
          case measure => simp [intOf]; omega
      · have hil2 : decide ((i : Int) < len2) = false := by simp; omega
        have hrg : ro = false := by rw [hro]; simp [hl2]
        subst hrg
        clear hro
        have hbp := HP.out.symm
        go_wp2_with fail
        refine (map_any hM7 0 pg k 3 hpin).mono ?_
        rintro e w8 ⟨rfl, hM8, hs9⟩
        have hA8 := hA7.same hs9 (by omega) (by omega) (by omega)
        have c9 := hs9.cell c7 (fun h => by omega)
        go_wp2_with fail
        refine (rmap_any hA8 0 pg k 3 HCL.out).mono ?_
        rintro e w9 ⟨rfl, hA9, hs10⟩
        have HF := HFIN.out 3 0 w9 rfl (hM8.same hs10 (by omega) (by omega)) hA9 ((hs9.mono (T := fun k => w.heap.size ≤ k) (fun k _ h => by omega)).trans (hs10.mono (fun k _ h => by omega)))
        generalize ((M.alloc k).map 0 pg k 3).2 = er
        clear hM8 hA8 hA9 hs9 hs10 c9 c7 hM7 hA7 HFIN hbp hs8
        go_wp2
        go_round
        case rel => exact ⟨i + 1, by omega, by omega, by go_num, HF.out.1, HF.out.2.1, HLN.out, HF.out.2.2⟩
        case measure => simp [intOf]; omega
    · have hmin : i = min len 30 := by omega
      have hs9 : Same (fun _ => False) w wr := hsi.mono (fun k h h' => by omega)
      have hfin : MemAt wr f fb (laidN G (min len 30)) ∧ (laidN G (min len 30)).Laid (min len 30 + 1) := by
        rw [← hmin]
        exact ⟨hMi', hLi'⟩
      have HF := Lib.hid hfin
      have hlt : i < len → 30 ≤ i := by omega
      have hwf : w.heap.size ≤ f ∧ w.heap.size ≤ fb := ⟨by omega, by omega⟩
      clear hik hMi hAi hLi hsu hfin hMi' hLi' hmin hsi
      rcases Nat.lt_or_ge i len with hl | hl
      all_goals
        go_wp2
        refine bodyPost_ret (results_four rfl _ _ _) rfl ?_
        exact ⟨f, fb, r, rfl, hwf.1, hwf.2, HF.out.1, HF.out.2, hs9⟩
end Go.Proofs.Ytlbgnmcjdmdjpaa
namespace Go.Proofs.Ytlbgnmcjdmdjpaa
open Go.RowKit Go.Shelf
attribute [local go_sem] Oper.semAt_some

/-- How many pages a span touches. -/
def spn (a n : Nat) : Nat := if n = 0 then 0 else (a + n - 1) / 64 - a / 64 + 1
theorem spn_step {a n : Nat} (h : 0 < n) : spn a n = spn (a + pk a n) (n - pk a n) + 1 := by
  unfold spn pk
  rw [if_neg (by omega)]
  by_cases hn : n ≤ 64 - a % 64
  · rw [show min n (64 - a % 64) = n by omega, Nat.sub_self, if_pos rfl]
    omega
  · rw [show min n (64 - a % 64) = 64 - a % 64 by omega, if_neg (by omega)]
    omega

set_option maxHeartbeats 3200000 in
set_option maxRecDepth 8192 in
theorem spans_any (w : World) (a0 n0 : Nat) (ha : a0 ≤ 16384) (hn : n0 ≤ 4096) :
    Calls Try.prog 75 #[.int .i64 a0, .int .i64 n0] w fun e w' => e = .returned (.int .i64 (spn a0 n0)) ∧ Same (fun _ => False) w w' := by
  have h1 : decide ((a0 : Int) ≤ 16384) = true := by simp; omega
  have h2 : decide ((n0 : Int) ≤ 4096) = true := by simp; omega
  refine (callsIn_wide (n := 0)).1 ?_
  refine callsIn_of_wp_marks Try.func75 rfl trivial ?_ rfl
  simp only [Try.ntmps75, List.size_toArray, List.length_cons, List.length_nil, Nat.reduceAdd, Nat.reduceSub, Array.replicate_succ, Array.replicate_zero, List.push_toArray, List.append_toArray, List.nil_append, List.cons_append]
  gi_wp2_with (gi_at_call 107; refine CallsIn.mono (callsIn_wide.2 (parts_any _ _ _)) ?_; rintro e w' ⟨rfl, rfl⟩)
  refine range_wide2 (gf := 120) (lb := #[.pointer (some ⟨w.heap.size + 1 + 1, 0, none⟩), .pointer (some ⟨w.heap.size + 1, 0, none⟩)]) rfl (enters_of Try.func120 (by kernel_rfl) rfl) ?_
  intro rec D L W1 hD hL hrule hs1 hl1 hd1 hrec
  simp only [World.size_alloc] at hD
  have c3 : W1.cell? ⟨w.heap.size, 0, none⟩ = some (.int .i64 0) := hs1.cell (by simp [go_sem]) (fun h => h)
  have c4 : W1.cell? ⟨w.heap.size + 1, 0, none⟩ = some (.int .i64 a0) := hs1.cell (by simp [go_sem]) (fun h => h)
  have c5 : W1.cell? ⟨w.heap.size + 1 + 1, 0, none⟩ = some (.int .i64 n0) := hs1.cell (by simp [go_sem]) (fun h => h)
  have z3 : W1.frozen? ⟨w.heap.size, 0, none⟩ = false := hs1.unfrozen (a := ⟨w.heap.size, 0, none⟩) (v := .int .i64 0) (by simp [go_sem]) (by simp [go_sem]) (fun h => h)
  have z4 : W1.frozen? ⟨w.heap.size + 1, 0, none⟩ = false := hs1.unfrozen (a := ⟨w.heap.size + 1, 0, none⟩) (v := .int .i64 a0) (by simp [go_sem]) (by simp [go_sem]) (fun h => h)
  have z5 : W1.frozen? ⟨w.heap.size + 1 + 1, 0, none⟩ = false := hs1.unfrozen (a := ⟨w.heap.size + 1 + 1, 0, none⟩) (v := .int .i64 n0) (by simp [go_sem]) (by simp [go_sem]) (fun h => h)
  have hsw : Same (fun k => w.heap.size ≤ k) w W1 := ((((same_alloc _).alloc _).alloc _).trans hs1).mono (fun _ _ h => h.elim)
  clear hs1
  refine Calls.mono (parts1 L (w.heap.size + 1) (w.heap.size + 1 + 1) (by omega)
    (fun a n W => ∃ k : Nat, k + spn a n = spn a0 n0 ∧ k ≤ 20480 ∧ k ≤ a ∧ W.cell? ⟨w.heap.size, 0, none⟩ = some (.int .i64 k) ∧ W.frozen? ⟨w.heap.size, 0, none⟩ = false ∧ W.heap[L]? = some (rec .ready none) ∧ W.heap[D]? = some (.deferred (some [])) ∧ Same (fun k => w.heap.size ≤ k) w W)
    (fun W => False)
    ?_ ?_ W1 a0 n0 ⟨0, by omega, by omega, by omega, c3, z3, hl1, hd1, hsw⟩ ⟨c4, c5, z4, z5⟩ (by omega)) ?_
  · rintro a n W W' ⟨k, h1, h2, h2', h3, h4, h5, h6, h7⟩ hs
    exact ⟨k, h1, h2, h2', hs.cell h3 (by simp <;> omega), hs.unfrozen h3 h4 (by simp <;> omega), hs.block h5 (by omega), hs.block h6 (by omega), h7.trans (hs.mono (fun b _ h => by omega))⟩
  · rintro a n W hn hle2 hB ⟨k, h1, h2, h2', h3, h4, h5, h6, h7⟩
    have hA : Same (fun _ => False) W (W.alloc (.cells #[.int .i64 ((a : Int) / 64), .int .i64 ((a : Int) % 64), .int .i64 (pk a n)] 140)) := same_alloc _
    have hp2 : (W.alloc (.cells #[.int .i64 ((a : Int) / 64), .int .i64 ((a : Int) % 64), .int .i64 (pk a n)] 140)).cell? ⟨W.heap.size, 2, none⟩ = some (.int .i64 (pk a n)) := by simp
    obtain ⟨VA, hVA⟩ : ∃ VA, VA = W.alloc (.cells #[.int .i64 ((a : Int) / 64), .int .i64 ((a : Int) % 64), .int .i64 (pk a n)] 140) := ⟨_, rfl⟩
    have hszA : VA.heap.size = W.heap.size + 1 := by rw [hVA]; simp
    rw [← hVA] at hA hp2 ⊢
    have hl7 := hA.block h5 (fun h => h)
    have hWA : W.heap.size < VA.heap.size := by omega
    have hst := spn_step (a := a) hn
    obtain ⟨k1, k2, k3⟩ := pk_pos (a := a) hn
    have HST := Lib.hid hst
    have H1 := Lib.hid h1
    have hbl := hB.lt
    have hLW := (Array.getElem?_eq_some_iff.1 h5).1
    have HB := Lib.hid hB
    clear hVA hszA hst h1 hB
    refine hrule VA _ _ hl7 rfl ?_
    gi_wp2
    intro W2 hs2 hz2 hl2
    have hsA : Same (· = L) W W2 := (hA.mono (fun _ _ h => h.elim)).trans hs2
    have d3 := hsA.cell h3 (by simp <;> omega)
    have d4 := hsA.unfrozen h3 h4 (by simp <;> omega)
    have d6 := hsA.block h6 (by omega)
    have dp := hs2.cell hp2 (by simp <;> omega)
    have HB2 := Lib.hid (HB.out.same hsA (by omega) (by omega))
    have hs7 := h7.trans (hsA.mono (T := fun k => w.heap.size ≤ k) (fun b _ h => by omega))
    have hb3 := World.block_lt_of_cell? _ _ d3
    simp only at hb3
    clear hz2 h3 h4 h5 h6 h7 hp2 hl7 hA hsA
    gi_wp2
    obtain ⟨W7, hW7⟩ : ∃ W7, W7 = W2.setCell ⟨w.heap.size, 0, none⟩ (.int .i64 ((k : Int) + 1)) := ⟨_, rfl⟩
    have hs8 : Same (· = w.heap.size) W2 W7 := by rw [hW7]; exact (Same.refl _ _).setCell _ (.inr rfl)
    have g3 : W7.cell? ⟨w.heap.size, 0, none⟩ = some (.int .i64 ((k + 1 : Nat) : Int)) := by rw [hW7]; exact World.cell?_setCell_same _ _ _ d3
    have g4 : W7.frozen? ⟨w.heap.size, 0, none⟩ = false := by rw [hW7]; simpa using d4
    rw [← hW7]
    refine ⟨hs8.block hl2 (by omega), fun W8 hs9 _ hl8 => ⟨rfl, (HB2.out.same hs8 (by omega) (by omega)).same hs9 (by omega) (by omega), ⟨k + 1, by have := H1.out; have := HST.out; omega, by omega, by omega, hs9.cell g3 (by simp <;> omega), hs9.unfrozen g3 g4 (by simp <;> omega), hl8, hs9.block (hs8.block d6 (by omega)) (by omega), (hs7.trans (hs8.mono (fun b _ h => by omega))).trans (hs9.mono (fun b _ h => by omega))⟩, hs9.cell (hs8.cell dp (by simp <;> omega)) (by simp <;> omega)⟩⟩
  · rintro e W ⟨⟨v, rfl⟩, ⟨aE, k, h1, h2, h2', h3, h4, h5, h6, h7⟩ | h⟩
    · refine ⟨⟨_, rfl⟩, .inl ⟨h5, fun W2 hs2 _ => ?_⟩⟩
      have k5 := hs2.cell h3 (by simp <;> omega)
      have kD := hs2.block h6 (by omega)
      have hk : k = spn a0 n0 := by rw [← h1]; unfold spn; simp
      have HK := Lib.hid hk
      have hs8 : Same (fun k => w.heap.size ≤ k) w W2 := h7.trans (hs2.mono (fun b _ h => by omega))
      clear h1 hk
      gi_wp2
      refine leaves_mark kD fun W5 hs6 _ => ⟨results_tmp rfl _ _ _, by rw [← HK.out]; rfl, (hs8.trans (hs6.mono (fun b _ h => by omega))).mono (fun b hb h => by omega)⟩
    · exact h.elim

/-- Two pages, 0 and 1. -/
def g01 : Nat → Int := fun i => if i = 0 then 0 else 1
def m01 : Mm := laidN (fun i => (bits .and .i64 (g01 i) 255, decide (i < 0) && false)) 2
theorem m01_walk : m01.walk 0 0 = (1, 3, 0) ∧ m01.walk 0 1 = (3, 3, 0) ∧ m01.walk 0 2 = (0, 0, 30) ∧ m01.isUsed 0 = true := by decide +kernel

set_option maxHeartbeats 3200000 in
set_option maxRecDepth 8192 in
theorem shown3 (w : World) : Calls Try.prog 39 #[] w fun e w' => e = .returned (.bool true) ∧ Same (fun _ => False) w w' := by
  have hl := laid_any (w.alloc (.cells #[.int .i64 0, .int .i64 1] 3)) (some ⟨w.heap.size, 0, none⟩) 2 2 none 0 0 g01 (fun _ => false) (by omega) (by omega)
    (fun i hi => ⟨⟨w.heap.size, 0, none⟩, rfl, by
      match i, hi with
      | 0, _ => simp [g01, Addr.add]
      | 1, _ => simp [g01, Addr.add]⟩) (fun i hi => by omega)
  have hm : laidN (fun i => (bits .and .i64 (g01 i) 255, decide (i < 0) && (fun _ => false) i)) (min 2 30) = m01 := rfl
  rw [hm] at hl
  have HL := Lib.hid hl
  obtain ⟨p0, p1, p2, pu⟩ := m01_walk
  have HP0 := Lib.hid p0
  have HP1 := Lib.hid p1
  have HP2 := Lib.hid p2
  have HPU := Lib.hid pu
  generalize m01 = M at HL HP0 HP1 HP2 HPU
  clear hl hm p0 p1 p2 pu
  go_enter Try.func39, Try.ntmps39
  go_wp2_with fail
  refine HL.out.mono ?_
  rintro e w1 ⟨f, fb, r, rfl, hf, hfb, hM, hLd, hs1⟩
  obtain ⟨T, ht, hd⟩ := hLd.ex
  have HT := Lib.hid ht
  have HD := Lib.hid hd
  have hsw : Same (fun _ => False) w w1 := (same_alloc _).trans hs1
  have hszw := hsw.size
  simp only [World.size_alloc] at hf hfb
  clear ht hd hLd hs1 HL
  have ho := out_c hM HT.out HD.out 62 ⟨#[97, 98, 99, 100]⟩ (by constructor <;> decide) (by decide)
  have HO := Lib.hid ho
  clear ho
  go_wp2_with fail
  refine HO.out.mono ?_
  rintro e w2 ⟨er, M2, rfl, hcr, hM2, hor, hs2⟩
  have hck : ∀ wr i : Nat, i < 128 → M.okB 0 true i ∧ M.okB 0 false i := by
    intro _ i hi
    unfold Mm.okB
    have h0 := HP0.out
    have h1 := HP1.out
    have hc : ((i : Int) / 64) = 0 ∨ ((i : Int) / 64) = 1 := by omega
    rcases hc with e | e
    · rw [e, h0]; exact ⟨⟨rfl, fun _ => by decide⟩, rfl, fun h => by cases h⟩
    · rw [e, h1]; exact ⟨⟨rfl, fun _ => by decide⟩, rfl, fun h => by cases h⟩
  have her : er = 0 := by
    have hu := HPU.out
    rcases hcr with ⟨h, _⟩ | ⟨_, h, _⟩ | ⟨_, _, _, h, _⟩ | ⟨_, a, k, h1, h2, h3, h4, ⟨h5, _⟩ | ⟨_, i, h6, h7, h8⟩⟩
    · rw [show ((0 : Nat) : Int) = 0 from rfl, hu] at h; cases h
    · exfalso; simp [ByteArray.size] at h
    · exfalso; simp [ByteArray.size] at h
    · exact h5
    · exfalso
      simp [ByteArray.size] at h2
      exact h8 (hck 0 i (by omega)).1
  subst her
  have hout : OutR M M2 0 T 62 66 ⟨#[97, 98, 99, 100]⟩ := by
    rcases hor with ⟨h, _⟩ | ⟨_, _, h⟩
    · exact absurd rfl h
    · exact h
  have HOUT := Lib.hid hout
  have hwk2 : ∀ p : Int, M2.walk 0 p = M.walk 0 p := fun p => hout.tab.walk HT.out p
  have HW2 := Lib.hid @hwk2
  have hfo2 : FramesOk M2 0 := (HD.out.same hout.tab HT.out).ok
  have hu2 : M2.isUsed 0 = true := by
    have := (hout.tab.tree HT.out)
    exact Mm.isUsed_nat this.rn (by rw [this.rR]; decide)
  have HU2 := Lib.hid hu2
  have HI := Lib.hid (in_c hM2 0 63 2 (by constructor <;> decide) (by constructor <;> decide) hfo2)
  have hs3 : Same (fun k => w.heap.size ≤ k) w w2 := (hsw.mono (fun _ _ h => h.elim)).trans (hs2.mono (fun b _ h => by omega))
  clear hcr hor hout hwk2 hfo2 hs2 hu2
  go_wp2_with fail
  refine HI.out.mono ?_
  rintro e w3 ⟨er, s, rfl, ⟨hcr, hin⟩, hs4⟩
  have hck2 : ∀ i : Nat, i < 128 → M2.okB 0 false i := by
    intro i hi
    have := (hck 0 i hi).2
    unfold Mm.okB at this ⊢
    rw [HW2.out]; exact this
  have her : er = 0 := by
    rcases hcr with ⟨h, _⟩ | ⟨_, h, _⟩ | ⟨_, _, _, h, _⟩ | ⟨_, a, k, h1, h2, h3, h4, ⟨h5, _⟩ | ⟨_, i, h6, h7, h8⟩⟩
    · rw [HU2.out] at h; cases h
    · omega
    · omega
    · exact h5
    · exact absurd (hck2 i (by omega)) h8
  subst her
  have hsv : s = ⟨#[98, 99]⟩ := by
    rcases hin with ⟨h, _⟩ | ⟨_, h⟩
    · exact absurd rfl h
    · rw [h]
      have w0 := HP0.out
      have w1 := HP1.out
      have v63 := HOUT.out.vb 63 (by rw [show (((63 : Nat) : Int) / 64) = 0 from rfl]; rw [show ((0 : Nat) : Int) = 0 from rfl, w0])
      have v64 := HOUT.out.vb 64 (by rw [show (((64 : Nat) : Int) / 64) = 1 from rfl]; rw [show ((0 : Nat) : Int) = 0 from rfl, w1])
      rw [if_pos (by omega)] at v63 v64
      unfold Mm.vstr Mm.vs
      show (⟨[M2.vb 0 63, M2.vb 0 64].toArray⟩ : ByteArray) = _
      rw [show ((0 : Nat) : Int) = 0 from rfl] at v63 v64
      rw [v63, v64]
      rfl
  subst hsv
  have HC := Lib.hid (check_c (hM2.same0 hs4) 0 127 2 false (by constructor <;> decide) (by constructor <;> decide))
  have hs5 := hs3.trans (hs4.mono (fun _ _ h => h.elim))
  clear hcr hin hs3 hs4 hck2
  go_wp2_with fail
  refine HC.out.mono ?_
  rintro e w4 ⟨er, rfl, hcr, hs6⟩
  have her : er = 30 := by
    rcases hcr with ⟨h, _⟩ | ⟨_, h, _⟩ | ⟨_, _, _, h, _⟩ | ⟨_, a, k, h1, h2, h3, h4, ⟨_, h5⟩ | ⟨h5, _⟩⟩
    · rw [HU2.out] at h; cases h
    · omega
    · omega
    · have hk := h5 128 (by omega) (by omega)
      unfold Mm.okB at hk
      rw [show (((128 : Nat) : Int) / 64) = 2 from rfl, HW2.out, HP2.out] at hk
      exact absurd hk.1 (by decide)
    · exact h5
  subst her
  have hs7 := hs5.trans (hs6.mono (fun _ _ h => h.elim))
  have HS := Lib.hid (spans_any w4 62 4 (by omega) (by omega))
  clear hcr hs5 hs6 hM hM2 hck
  go_wp2_with fail
  refine HS.out.mono ?_
  rintro e w5 ⟨rfl, hs8⟩
  have hsp : ((spn 62 4 : Nat) : Int) = 2 := by decide
  rw [hsp]
  have hs9 : Same (fun _ => False) w w5 := (hs7.trans (hs8.mono (fun _ _ h => h.elim))).mono (fun k h h' => by omega)
  clear hs7 hs8 hsp
  go_wp2
  go_ret
  exact ⟨rfl, hs9⟩
end Go.Proofs.Ytlbgnmcjdmdjpaa
namespace Go.Proofs.Ytlbgnmcjdmdjpaa
open Go.RowKit Go.Shelf
attribute [local go_sem] Oper.semAt_some

theorem chk_pair {M : Mm} {root a n r w : Int} (h1 : ChkR M root a n false r) (h2 : ChkR M root a n true w) :
    (r = w ∧ (r = 10 ∨ r = 2 ∨ r = 30)) ∨ (r = 0 ∧ w = 30) ∨ (r = 0 ∧ w = 0) := by
  rcases h1 with ⟨u1, e1⟩ | ⟨u1, b1, e1⟩ | ⟨u1, b1, c1, d1, e1⟩ | ⟨u1, x, k, ha, hn, hk, hx, h1⟩
  · rcases h2 with ⟨u2, e2⟩ | ⟨u2, b2, e2⟩ | ⟨u2, b2, c2, d2, e2⟩ | ⟨u2, y, l, hb, hm, hl, hy, h2⟩ <;> first | omega | (exfalso; clear h2; omega) | (rw [u1] at u2; cases u2)
  · rcases h2 with ⟨u2, e2⟩ | ⟨u2, b2, e2⟩ | ⟨u2, b2, c2, d2, e2⟩ | ⟨u2, y, l, hb, hm, hl, hy, h2⟩ <;> first | omega | (exfalso; clear h2; omega) | (rw [u1] at u2; cases u2)
  · rcases h2 with ⟨u2, e2⟩ | ⟨u2, b2, e2⟩ | ⟨u2, b2, c2, d2, e2⟩ | ⟨u2, y, l, hb, hm, hl, hy, h2⟩ <;> first | omega | (exfalso; clear h2; omega) | (rw [u1] at u2; cases u2)
  · rcases h2 with ⟨u2, e2⟩ | ⟨u2, b2, e2⟩ | ⟨u2, b2, c2, d2, e2⟩ | ⟨u2, y, l, hb, hm, hl, hy, h2⟩
    · rw [u1] at u2; cases u2
    · omega
    · omega
    · obtain rfl : y = x := by omega
      obtain rfl : l = k := by omega
      rcases h1 with ⟨rfl, h1⟩ | ⟨rfl, i, hi1, hi2, hi⟩
      · rcases h2 with ⟨rfl, h2⟩ | ⟨rfl, _⟩
        · exact .inr (.inr ⟨rfl, rfl⟩)
        · exact .inr (.inl ⟨rfl, rfl⟩)
      · rcases h2 with ⟨rfl, h2⟩ | ⟨rfl, _⟩
        · exact absurd ⟨(h2 i hi1 hi2).1, fun h => by cases h⟩ hi
        · exact .inl ⟨rfl, .inr (.inr rfl)⟩
theorem chk_zero {M : Mm} {root a n : Int} {wr : Bool} (h : ChkR M root a n wr 0) : M.isUsed root = true ∧ 0 ≤ a ∧ 0 ≤ n ∧ n ≤ 4096 ∧ a + n ≤ 16384 ∧ ∀ i : Nat, a ≤ i → (i : Int) < a + n → M.okB root wr i := by
  rcases h with ⟨u1, e1⟩ | ⟨u1, b1, e1⟩ | ⟨u1, b1, c1, d1, e1⟩ | ⟨u1, x, k, rfl, rfl, hk, hx, h1⟩
  · omega
  · omega
  · omega
  · rcases h1 with ⟨-, h1⟩ | ⟨e, _⟩
    · exact ⟨u1, by omega, by omega, by omega, by omega, fun i h2 h3 => h1 i (by omega) (by omega)⟩
    · omega
theorem chk_sub {M : Mm} {root a n fr k er : Int} {wr : Bool} (h : ChkR M root a n wr 0) (hf : 0 ≤ fr) (hk : 0 ≤ k) (hs : fr + k ≤ n) (g : ChkR M root (a + fr) k wr er) : er = 0 := by
  obtain ⟨u, h0, h1, h2, h3, h4⟩ := chk_zero h
  rcases g with ⟨u1, e1⟩ | ⟨u1, b1, e1⟩ | ⟨u1, b1, c1, d1, e1⟩ | ⟨u1, x, l, hx, hl, hk, hx2, g⟩
  · rw [u] at u1; cases u1
  · omega
  · omega
  · rcases g with ⟨e, _⟩ | ⟨-, i, hi1, hi2, hi⟩
    · exact e
    · exact absurd (h4 i (by omega) (by omega)) hi

set_option maxHeartbeats 3200000 in
set_option maxRecDepth 8192 in
theorem less_walk (w : World) (a : Option Addr) (len cap : Nat) (b : Option Addr) (len2 cap2 : Nat) (gp : Nat → Int) (gb : Nat → Bool) (hlen : len ≤ 9223372036854775807) (hlen2 : len2 ≤ 9223372036854775807)
    (ha : ∀ i, i < len → ∃ x, a = some x ∧ w.cell? (x.add i) = some (.int .i64 (gp i))) (hb : ∀ i, i < len2 → ∃ x, b = some x ∧ w.cell? (x.add i) = some (.bool (gb i)))
    (addr n fr k : Int) (hia : In64 addr) (hin : In64 n) (hik : In64 k) :
    Calls Try.prog 12 #[.slice a len cap, .slice b len2 cap2, .int .i64 addr, .int .i64 n, .int .i64 fr, .int .i64 k] w fun e w' => e = .returned (.bool true) ∧ Same (fun _ => False) w w' := by
  go_enter Try.func12, Try.ntmps12
  go_wp2_with fail
  refine (shown3 _).mono ?_
  rintro e w1 ⟨rfl, hs1⟩
  go_wp2_with fail
  refine (laid_any _ a len cap b len2 cap2 gp gb hlen hlen2 (fun i hi => ?_) (fun i hi => ?_)).mono ?_
  · obtain ⟨x, hx, hc⟩ := ha i hi
    exact ⟨x, hx, hs1.cell hc (by simp)⟩
  · obtain ⟨x, hx, hc⟩ := hb i hi
    exact ⟨x, hx, hs1.cell hc (by simp)⟩
  rintro e w2 ⟨f, fb, r, rfl, hf, hfb, hM, -, hs2⟩
  have hs02 : Same (fun _ => False) w w2 := hs1.trans hs2
  generalize laidN _ _ = M at hM
  clear ha hb hlen hlen2 hs1 hs2 gp gb hf hfb
  by_cases g1 : fr < 0
  · go_wp2
    go_ret
    exact ⟨rfl, hs02⟩
  by_cases g2 : k < 0
  · go_wp2
    go_ret
    exact ⟨rfl, hs02⟩
  by_cases g3 : 4096 < fr
  · go_wp2
    go_ret
    exact ⟨rfl, hs02⟩
  by_cases g4 : 4096 < k
  · go_wp2
    go_ret
    exact ⟨rfl, hs02⟩
  by_cases g5 : n < fr + k
  · go_wp2
    go_ret
    exact ⟨rfl, hs02⟩
  have G5 := Lib.hid g5
  have CF := Lib.hid (check_c hM 0 addr n false hia hin)
  have hM' := hM
  go_wp2_with fail
  refine CF.out.mono ?_
  rintro e w3 ⟨er, rfl, h3, hs3⟩
  have hM3 := hM.same0 hs3
  have CT := Lib.hid (check_c hM3 0 addr n true hia hin)
  have H3 := Lib.hid h3
  have hs03 := hs02.trans hs3
  clear h3 hs3 hs02 hM' CF
  go_wp2_with fail
  refine CT.out.mono ?_
  rintro e w4 ⟨ew, rfl, h4, hs4⟩
  have hM4 := hM3.same0 hs4
  have hs04 := hs03.trans hs4
  rcases chk_pair H3.out h4 with ⟨rfl, h⟩ | ⟨rfl, rfl⟩ | ⟨rfl, rfl⟩
  · clear h4 hs4 hs03 CT H3 hM3 hM
    rcases h with rfl | rfl | rfl
    all_goals
      go_wp2
      go_ret
      exact ⟨rfl, hs04⟩
  · clear h4 hs4 hs03 CT hM3 hM
    obtain ⟨u, z0, z1, z2, z3, -⟩ := chk_zero H3.out
    have hsub := fun er (h : ChkR M 0 (addr + fr) k false er) => chk_sub H3.out (by omega) (by omega) (by have := G5.out; omega) h
    have HS := Lib.hid hsub
    have CS := Lib.hid (check_c hM4 0 (addr + fr) k false (by constructor <;> omega) hik)
    clear hsub H3
    go_wp2_with fail
    refine CS.out.mono ?_
    rintro e w5 ⟨er, rfl, h5, hs5⟩
    obtain rfl := HS.out _ h5
    have hs05 := hs04.trans hs5
    clear h5 hs5 HS CS hs04
    go_wp2
    go_ret
    exact ⟨rfl, hs05⟩
  · obtain ⟨u, z0, z1, z2, z3, -⟩ := chk_zero H3.out
    have hsub := fun er (h : ChkR M 0 (addr + fr) k false er) => chk_sub H3.out (by omega) (by omega) (by have := G5.out; omega) h
    have hsub2 := fun er (h : ChkR M 0 (addr + fr) k true er) => chk_sub h4 (by omega) (by omega) (by have := G5.out; omega) h
    have HS := Lib.hid hsub
    have HS2 := Lib.hid hsub2
    have hia2 : In64 (addr + fr) := by constructor <;> omega
    have CS := Lib.hid (check_c hM4 0 (addr + fr) k false hia2 hik)
    have HIA := Lib.hid hia2
    clear hsub hsub2 H3 h4 hs4 hs03 CT hM3 hM hia2
    go_wp2_with fail
    refine CS.out.mono ?_
    rintro e w5 ⟨er, rfl, h5, hs5⟩
    obtain rfl := HS.out _ h5
    have hs05 := hs04.trans hs5
    have hM5 := hM4.same0 hs5
    have CS2 := Lib.hid (check_c hM5 0 (addr + fr) k true HIA.out hik)
    clear h5 hs5 HS CS hs04 hM4
    go_wp2_with fail
    refine CS2.out.mono ?_
    rintro e w6 ⟨er, rfl, h6, hs6⟩
    obtain rfl := HS2.out _ h6
    have hs06 := hs05.trans hs6
    clear h6 hs6 HS2 CS2 hs05 hM5
    go_wp2
    go_ret
    exact ⟨rfl, hs06⟩
end Go.Proofs.Ytlbgnmcjdmdjpaa
namespace Go.Proofs.Ytlbgnmcjdmdjpaa
open Go.RowKit Go.Shelf
attribute [local go_sem] Oper.semAt_some

theorem chk_fun {M : Mm} {root a n r w : Int} {wr : Bool} (h1 : ChkR M root a n wr r) (h2 : ChkR M root a n wr w) : r = w := by
  rcases h1 with ⟨u1, e1⟩ | ⟨u1, b1, e1⟩ | ⟨u1, b1, c1, d1, e1⟩ | ⟨u1, x, k, ha, hn, hk, hx, h1⟩
  · rcases h2 with ⟨u2, e2⟩ | ⟨u2, b2, e2⟩ | ⟨u2, b2, c2, d2, e2⟩ | ⟨u2, y, l, hb, hm, hl, hy, h2⟩ <;> first | omega | (rw [u1] at u2; cases u2)
  · rcases h2 with ⟨u2, e2⟩ | ⟨u2, b2, e2⟩ | ⟨u2, b2, c2, d2, e2⟩ | ⟨u2, y, l, hb, hm, hl, hy, h2⟩ <;> first | omega | (exfalso; clear h2; omega) | (rw [u1] at u2; cases u2)
  · rcases h2 with ⟨u2, e2⟩ | ⟨u2, b2, e2⟩ | ⟨u2, b2, c2, d2, e2⟩ | ⟨u2, y, l, hb, hm, hl, hy, h2⟩ <;> first | omega | (exfalso; clear h2; omega) | (rw [u1] at u2; cases u2)
  · rcases h2 with ⟨u2, e2⟩ | ⟨u2, b2, e2⟩ | ⟨u2, b2, c2, d2, e2⟩ | ⟨u2, y, l, hb, hm, hl, hy, h2⟩
    · rw [u1] at u2; cases u2
    · omega
    · omega
    · obtain rfl : y = x := by omega
      obtain rfl : l = k := by omega
      rcases h1 with ⟨rfl, h1⟩ | ⟨rfl, i, hi1, hi2, hi⟩
      · rcases h2 with ⟨rfl, h2⟩ | ⟨rfl, i, hi1, hi2, hi⟩
        · rfl
        · exact absurd (h1 i hi1 hi2) hi
      · rcases h2 with ⟨rfl, h2⟩ | ⟨rfl, _⟩
        · exact absurd (h2 i hi1 hi2) hi
        · rfl
theorem inr_fun {M : Mm} {root a n e e' : Int} {s s' : ByteArray} (h : InR M root a n e s) (h' : InR M root a n e' s') : e' = e ∧ s' = s := by
  obtain rfl := chk_fun h.1 h'.1
  refine ⟨rfl, ?_⟩
  rcases h.2 with ⟨z, rfl⟩ | ⟨z, rfl⟩ <;> rcases h'.2 with ⟨z', rfl⟩ | ⟨z', rfl⟩ <;> first | rfl | omega
theorem chk_same {M M' : Mm} {root a n e : Int} {wr : Bool} (hu : M'.isUsed root = M.isUsed root) (hw : ∀ p, M'.walk root p = M.walk root p) (h : ChkR M' root a n wr e) : ChkR M root a n wr e := by
  have ho : ∀ i, M'.okB root wr i ↔ M.okB root wr i := fun i => by unfold Mm.okB; rw [hw]
  unfold ChkR at h ⊢
  rw [hu] at h
  simpa only [ho] using h
theorem vstr_one (M : Mm) (root : Int) (a : Nat) : M.vstr root a 1 = ⟨#[M.vb root a]⟩ := by
  unfold Mm.vstr Mm.vs; simp
theorem Mm.Tree.used {M : Mm} {r : Nat} {T : Nat → Option Nat} {cu : Nat} (ht : M.Tree r T cu) : M.isUsed r = true := Mm.isUsed_nat ht.rn (by have := ht.rR; omega)
theorem back_law {M M' : Mm} {T : Nat → Option Nat} {cu : Nat} (ht : M.Tree 0 T cu) {addr other e g h : Int} {s was got is_ : ByteArray}
    (h1 : InR M 0 other 1 e was) (h2 : ChkR M 0 addr s.size true 0) (ho : OutR M M' 0 T addr.toNat (addr.toNat + s.size) s) (h3 : InR M' 0 addr s.size g got) (h4 : InR M' 0 other 1 h is_) :
    g = 0 ∧ got = s ∧ h = e ∧ (was = is_ ∨ addr ≤ other ∧ other < addr + s.size) ∧ 0 ≤ addr ∧ addr ≤ 16384 := by
  have hw : ∀ p, M'.walk 0 p = M.walk 0 p := fun p => ho.tab.walk ht p
  have hu : M'.isUsed 0 = M.isUsed 0 := by
    have a := (ho.tab.tree ht).used
    have b := ht.used
    rw [show ((0 : Nat) : Int) = 0 from rfl] at a b
    rw [a, b]
  obtain ⟨-, z0, z1, z2, z3, z4⟩ := chk_zero h2
  have hg : g = 0 := by
    rcases chk_pair (chk_same hu hw h3.1) h2 with ⟨a, b⟩ | ⟨a, b⟩ | ⟨a, b⟩ <;> omega
  subst hg
  have he : h = e := (chk_fun h1.1 (chk_same hu hw h4.1)).symm
  subst he
  have hv : ∀ i : Nat, (M.walk 0 ((i : Int) / 64)).2.2 = 0 → M'.vb 0 i = if addr.toNat ≤ i ∧ i < addr.toNat + s.size then (s.data.toList[i - addr.toNat]?).getD 0 else M.vb 0 i := fun i hi => ho.vb i hi
  refine ⟨rfl, ?_, rfl, ?_, z0, by omega⟩
  · rcases h3.2 with ⟨z, _⟩ | ⟨_, rfl⟩
    · exact absurd rfl z
    · have hl : s.data.toList.length = s.size := by simp
      have : M'.vs 0 addr.toNat (s.size : Int).toNat = s.data.toList := by
        apply List.ext_getElem?
        intro j
        rw [Int.toNat_natCast]
        by_cases hj : j < s.size
        · have hok := z4 (addr.toNat + j) (by omega) (by omega)
          unfold Mm.vs
          rw [List.getElem?_map, List.getElem?_range hj, Option.map_some, hv _ hok.1, if_pos (by omega), show addr.toNat + j - addr.toNat = j by omega]
          rw [List.getElem?_eq_getElem (by omega)]
          rfl
        · rw [List.getElem?_eq_none (by rw [Mm.vs_len]; omega), List.getElem?_eq_none (by omega)]
      unfold Mm.vstr
      rw [this]
  · rcases h1.2 with ⟨z, rfl⟩ | ⟨z, rfl⟩
    · rcases h4.2 with ⟨_, rfl⟩ | ⟨z', _⟩
      · exact .inl rfl
      · exact absurd z' z
    · rcases h4.2 with ⟨z', _⟩ | ⟨_, rfl⟩
      · exact absurd z z'
      · by_cases hin : addr ≤ other ∧ other < addr + s.size
        · exact .inr hin
        · left
          subst z
          obtain ⟨-, y0, y1, y2, y3, y4⟩ := chk_zero h1.1
          have hok := y4 other.toNat (by omega) (by omega)
          rw [show (1 : Int).toNat = 1 from rfl, vstr_one, vstr_one, hv _ hok.1, if_neg (by omega)]

theorem text_any (w : World) (s : ByteArray) (hs : s.size ≤ 9223372036854775807) : Calls Try.prog 41 #[.string s] w fun e w' => ∃ t : ByteArray, e = .returned (.string t) ∧ t.size ≤ 4200 ∧ Same (fun _ => False) w w' := by
  go_enter Try.func41, Try.ntmps41
  go_wp2
  go_ret
  exact ⟨_, rfl, by rw [ByteArray.size_extract]; omega, Same.refl _ _⟩

set_option maxHeartbeats 3200000 in
set_option maxRecDepth 8192 in
theorem back_walk (w : World) (a : Option Addr) (len cap : Nat) (b : Option Addr) (len2 cap2 : Nat) (gp : Nat → Int) (gb : Nat → Bool) (hlen : len ≤ 9223372036854775807) (hlen2 : len2 ≤ 9223372036854775807)
    (ha : ∀ i, i < len → ∃ x, a = some x ∧ w.cell? (x.add i) = some (.int .i64 (gp i))) (hb : ∀ i, i < len2 → ∃ x, b = some x ∧ w.cell? (x.add i) = some (.bool (gb i)))
    (addr other : Int) (s : ByteArray) (hia : In64 addr) (hio : In64 other) (hss : s.size ≤ 9223372036854775807) :
    Calls Try.prog 9 #[.slice a len cap, .slice b len2 cap2, .int .i64 addr, .string s, .int .i64 other] w fun e w' => e = .returned (.bool true) ∧ Same (fun _ => False) w w' := by
  go_enter Try.func9, Try.ntmps9
  go_wp2_with fail
  refine (shown3 _).mono ?_
  rintro e w1 ⟨rfl, hs1⟩
  go_wp2_with fail
  refine (laid_any _ a len cap b len2 cap2 gp gb hlen hlen2 (fun i hi => ?_) (fun i hi => ?_)).mono ?_
  · obtain ⟨x, hx, hc⟩ := ha i hi
    exact ⟨x, hx, hs1.cell hc (by simp)⟩
  · obtain ⟨x, hx, hc⟩ := hb i hi
    exact ⟨x, hx, hs1.cell hc (by simp)⟩
  rintro e w2 ⟨f, fb, r, rfl, hf, hfb, hM, hL, hs2⟩
  have hs02 : Same (fun _ => False) w w2 := hs1.trans hs2
  have hsz1 := hs1.size
  generalize laidN _ _ = M at hM hL
  obtain ⟨T, ht, hd⟩ := hL.ex
  have hfo := hd.ok
  have hus := ht.used
  rw [show ((0 : Nat) : Int) = 0 from rfl] at hfo hus
  have HT := Lib.hid ht
  have HD := Lib.hid hd
  have HF := Lib.hid hfo
  have HU := Lib.hid hus
  have hsz2 : w.heap.size ≤ fb := by omega
  clear ha hb hlen hlen2 hs1 hs2 gp gb hf hfb hL ht hd hfo hsz1 hus
  go_wp2_with fail
  refine (text_any _ s hss).mono ?_
  rintro e w3 ⟨t, rfl, ht, hs3⟩
  have hs03 := hs02.trans hs3
  have hM3 := hM.same0 hs3
  clear hs02 hs3 hM hss
  have hts : t.size ≤ 9223372036854775807 := by omega
  have hi1 : In64 1 := by constructor <;> omega
  have C1 := Lib.hid (in_c hM3 0 other 1 hio hi1 HF.out)
  have HI1 := Lib.hid hi1
  clear hi1
  go_wp2_with fail
  refine C1.out.mono ?_
  rintro e w4 ⟨e1, was, rfl, h1, hs4⟩
  have hs04 := hs03.trans hs4
  have hM4 := hM3.same0 hs4
  have H1 := Lib.hid h1
  have C2 := out_c hM4 HT.out HD.out addr t hia hts
  rw [show ((0 : Nat) : Int) = 0 from rfl] at C2
  have C2 := Lib.hid C2
  clear hs03 hs4 hM3 C1 h1 hM4
  go_wp2_with fail
  refine C2.out.mono ?_
  rintro e w5 ⟨f5, M', rfl, h2, hM5, h2', hs5⟩
  have hs05 : Same (fun _ => False) w w5 := hs04.trans' hs5 (fun b hb hbw => by omega)
  have H2 := Lib.hid h2
  have H2' := Lib.hid h2'
  have hfo' : FramesOk M' 0 := by
    rcases h2' with ⟨_, rfl⟩ | ⟨_, _, ho⟩
    · exact HF.out
    · have := (HD.out.same ho.tab HT.out).ok
      exact this
  have hit : In64 t.size := by constructor <;> omega
  have C3 := Lib.hid (in_c hM5 0 addr t.size hia hit hfo')
  have HF' := Lib.hid hfo'
  clear hs04 hs5 C2 h2 h2' hfo' hit
  go_wp2_with fail
  refine C3.out.mono ?_
  rintro e w6 ⟨g, got, rfl, h3, hs6⟩
  have hs06 := hs05.trans hs6
  have hM6 := hM5.same0 hs6
  have H3 := Lib.hid h3
  have C4 := Lib.hid (in_c hM6 0 other 1 hio HI1.out HF'.out)
  clear hs05 hs6 hM5 h3 C3
  go_wp2_with fail
  refine C4.out.mono ?_
  rintro e w7 ⟨h, is_, rfl, h4, hs7⟩
  have hs07 := hs06.trans hs7
  have H4 := Lib.hid h4
  clear hs06 hs7 h4 C4 hM6
  rcases H2'.out with ⟨hf5, hMM⟩ | ⟨rfl, h0, ho⟩
  · have h4 := H4.out
    rw [hMM] at h4
    obtain ⟨rfl, rfl⟩ := inr_fun H1.out h4
    have h5 : f5 = 2 ∨ f5 = 30 := by
      rcases H2.out with ⟨u, _⟩ | ⟨_, _, h⟩ | ⟨_, _, _, _, h⟩ | ⟨_, x, k, _, _, _, _, h⟩
      · rw [HU.out] at u; cases u
      · exact .inl h
      · exact .inr h
      · rcases h with ⟨h, _⟩ | ⟨h, _⟩
        · exact absurd h hf5
        · exact .inr h
    clear h4 hf5 hMM H1 H2 H2' H3 H4 HF HF' HD HT HU
    rcases h5 with rfl | rfl
    all_goals
      go_wp2
      go_ret
      exact ⟨rfl, hs07⟩
  · obtain ⟨rfl, rfl, rfl, hc, z0, z1⟩ := back_law HT.out H1.out H2.out ho H3.out H4.out
    clear ho H1 H2 H2' H3 H4 HF HF' HD HT HU
    by_cases hw : was = is_
    · subst hw
      go_wp2
      go_ret
      exact ⟨rfl, hs07⟩
    · obtain ⟨y0, y1⟩ := hc.resolve_left hw
      clear hc
      go_wp2
      all_goals
        go_ret
        exact ⟨rfl, hs07⟩
end Go.Proofs.Ytlbgnmcjdmdjpaa
