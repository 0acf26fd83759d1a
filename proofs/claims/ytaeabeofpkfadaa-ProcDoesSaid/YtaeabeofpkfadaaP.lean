/- proc: Pids, by the shelf's contracts on maps.Keys and slices.Sorted, laid at this dump. Conditions: the table's form, numbers' bounds. -/
import Derived.Shelf.SlIterI.Nil
import Derived.Shelf.SortM.Plain
import Derived.Shelf.SortM.SortNone
import Derived.Ground.GgzProg
import Derived.Ground.SlgmProg
import Derived.Test.YtaeabeofpkfadaaB
import Derived.Test.YtaeabeofpkfadaaAp
import Derived.Lib.Hide
namespace Go.Proofs
open Go.Shelf
def Try.keys26_ren : Go.Shelf.Ren := ⟨fun | 7 => 26 | 10 => 43 | n => n, fun | 23 => 61 | 26 => 3 | 3 => 60 | 28 => 66 | 0 => 0 | 27 => 65 | 33 => 77 | 4 => 4 | n => n, fun | n => n⟩
theorem Try.keys26 : Go.Proofs.SlLaysZI.n7 Try.prog Try.keys26_ren := {
  mixed := by kernel_rfl
  f7 := ⟨Try.f26.name, by decide, Try.func26.trans (congrArg some (by kernel_rfl))⟩
  f10 := ⟨Try.f43.name, by decide, Try.func43.trans (congrArg some (by kernel_rfl))⟩
  t0 := Try.underlying0
  a0 := Try.isAgg0
  z0 := Try.sizeOf0
  v0 := Try.zeroValue0
  t4 := Try.underlying4
  a4 := Try.isAgg4
  z4 := Try.sizeOf4
  v4 := Try.zeroValue4
  t23 := Try.underlying61
  a23 := Try.isAgg61
  z23 := Try.sizeOf61
  v23 := Try.zeroValue61
  t26 := Try.underlying3
  a26 := Try.isAgg3
  z26 := Try.sizeOf3
  v26 := Try.zeroValue3
  t27 := Try.underlying65
  a27 := Try.isAgg65
  z27 := Try.sizeOf65
  v27 := Try.zeroValue65
  t28 := Try.underlying66
  a28 := Try.isAgg66
  z28 := Try.sizeOf66
  v28 := Try.zeroValue66
  t33 := Try.underlying77
  a33 := Try.isAgg77
  z33 := Try.sizeOf77
  v33 := Try.zeroValue77 }
def Try.sorted25_ren : Go.Shelf.Ren := ⟨fun | 6 => 25 | 8 => 41 | 9 => 42 | 11 => 50 | 13 => 52 | 12 => 51 | 23 => 64 | 24 => 65 | 14 => 55 | 15 => 56 | 16 => 57 | 17 => 58 | 18 => 59 | 19 => 60 | 20 => 61 | 21 => 62 | 22 => 63 | 25 => 66 | 26 => 67 | 27 => 68 | 28 => 69 | 29 => 70 | 30 => 71 | 31 => 72 | n => n, fun | 26 => 3 | 28 => 66 | 24 => 22 | 0 => 0 | 3 => 3 | 37 => 27 | 48 => 97 | 50 => 99 | 4 => 4 | 40 => 89 | 39 => 88 | 45 => 94 | 5 => 5 | 9 => 9 | 51 => 100 | 55 => 104 | 57 => 106 | 58 => 107 | 33 => 77 | n => n, fun | n => n⟩
theorem Try.sorted25 : Go.Proofs.SlLaysZI.n6 Try.prog Try.sorted25_ren := {
  mixed := by kernel_rfl
  f6 := ⟨Try.f25.name, by decide, Try.func25.trans (congrArg some (by kernel_rfl))⟩
  f8 := ⟨Try.f41.name, by decide, Try.func41.trans (congrArg some (by kernel_rfl))⟩
  f11 := ⟨Try.f50.name, by decide, Try.func50.trans (congrArg some (by kernel_rfl))⟩
  t0 := Try.underlying0
  a0 := Try.isAgg0
  z0 := Try.sizeOf0
  v0 := Try.zeroValue0
  t24 := Try.underlying22
  a24 := Try.isAgg22
  z24 := Try.sizeOf22
  v24 := Try.zeroValue22
  t26 := Try.underlying3
  a26 := Try.isAgg3
  z26 := Try.sizeOf3
  v26 := Try.zeroValue3
  t28 := Try.underlying66
  a28 := Try.isAgg66
  z28 := Try.sizeOf66
  v28 := Try.zeroValue66
  i26 := by kernel_rfl }
def Try.sort42_ren : Go.Shelf.Ren := ⟨fun | 5 => 42 | 8 => 52 | 7 => 51 | 19 => 64 | 20 => 65 | 10 => 55 | 11 => 56 | 12 => 57 | 13 => 58 | 14 => 59 | 15 => 60 | 16 => 61 | 17 => 62 | 18 => 63 | 30 => 66 | 31 => 67 | 32 => 68 | 33 => 69 | 34 => 70 | 35 => 71 | 40 => 72 | n => n, fun | 23 => 22 | 25 => 3 | 3 => 3 | 32 => 27 | 22 => 22 | 0 => 0 | 44 => 97 | 46 => 99 | 4 => 4 | 36 => 89 | 35 => 88 | 41 => 94 | 5 => 5 | 9 => 9 | 53 => 100 | 57 => 104 | 63 => 106 | 64 => 107 | n => n, fun | n => n⟩
theorem Try.sort42 : Go.Proofs.SlLaysM.n5 Try.prog Try.sort42_ren := {
  mixed := by kernel_rfl
  f5 := ⟨Try.f42.name, by decide, Try.func42.trans (congrArg some (by kernel_rfl))⟩
  f7 := ⟨Try.f51.name, by decide, Try.func51.trans (congrArg some (by kernel_rfl))⟩
  f8 := Try.func52.trans (congrArg some (by kernel_rfl))
  f10 := ⟨Try.f55.name, by decide, Try.func55.trans (congrArg some (by kernel_rfl))⟩
  f11 := ⟨Try.f56.name, by decide, Try.func56.trans (congrArg some (by kernel_rfl))⟩
  f12 := ⟨Try.f57.name, by decide, Try.func57.trans (congrArg some (by kernel_rfl))⟩
  f13 := ⟨Try.f58.name, by decide, Try.func58.trans (congrArg some (by kernel_rfl))⟩
  f14 := ⟨Try.f59.name, by decide, Try.func59.trans (congrArg some (by kernel_rfl))⟩
  f15 := ⟨Try.f60.name, by decide, Try.func60.trans (congrArg some (by kernel_rfl))⟩
  f16 := ⟨Try.f61.name, by decide, Try.func61.trans (congrArg some (by kernel_rfl))⟩
  f17 := ⟨Try.f62.name, by decide, Try.func62.trans (congrArg some (by kernel_rfl))⟩
  f18 := ⟨Try.f63.name, by decide, Try.func63.trans (congrArg some (by kernel_rfl))⟩
  f19 := Try.func64.trans (congrArg some (by kernel_rfl))
  f20 := Try.func65.trans (congrArg some (by kernel_rfl))
  f30 := ⟨Try.f66.name, by decide, Try.func66.trans (congrArg some (by kernel_rfl))⟩
  f31 := Try.func67.trans (congrArg some (by kernel_rfl))
  f32 := Try.func68.trans (congrArg some (by kernel_rfl))
  f33 := ⟨Try.f69.name, by decide, Try.func69.trans (congrArg some (by kernel_rfl))⟩
  f34 := ⟨Try.f70.name, by decide, Try.func70.trans (congrArg some (by kernel_rfl))⟩
  f35 := ⟨Try.f71.name, by decide, Try.func71.trans (congrArg some (by kernel_rfl))⟩
  f40 := ⟨Try.f72.name, by decide, Try.func72.trans (congrArg some (by kernel_rfl))⟩
  t0 := Try.underlying0
  a0 := Try.isAgg0
  z0 := Try.sizeOf0
  v0 := Try.zeroValue0
  t3 := Try.underlying3
  a3 := Try.isAgg3
  z3 := Try.sizeOf3
  v3 := Try.zeroValue3
  t4 := Try.underlying4
  a4 := Try.isAgg4
  z4 := Try.sizeOf4
  v4 := Try.zeroValue4
  t5 := Try.underlying5
  a5 := Try.isAgg5
  z5 := Try.sizeOf5
  v5 := Try.zeroValue5
  t9 := Try.underlying9
  a9 := Try.isAgg9
  z9 := Try.sizeOf9
  v9 := Try.zeroValue9
  t22 := Try.underlying22
  a22 := Try.isAgg22
  z22 := Try.sizeOf22
  v22 := Try.zeroValue22
  t23 := Try.underlying22
  a23 := Try.isAgg22
  z23 := Try.sizeOf22
  v23 := Try.zeroValue22
  t25 := Try.underlying3
  a25 := Try.isAgg3
  z25 := Try.sizeOf3
  v25 := Try.zeroValue3
  t32 := Try.underlying27
  a32 := Try.isAgg27
  z32 := Try.sizeOf27
  v32 := Try.zeroValue27
  t35 := Try.underlying88
  a35 := Try.isAgg88
  z35 := Try.sizeOf88
  v35 := Try.zeroValue88
  t36 := Try.underlying89
  a36 := Try.isAgg89
  z36 := Try.sizeOf89
  v36 := Try.zeroValue89
  t41 := Try.underlying94
  a41 := Try.isAgg94
  z41 := Try.sizeOf94
  v41 := Try.zeroValue94
  t44 := Try.underlying97
  a44 := Try.isAgg97
  z44 := Try.sizeOf97
  v44 := Try.zeroValue97
  t46 := Try.underlying99
  a46 := Try.isAgg99
  z46 := Try.sizeOf99
  v46 := Try.zeroValue99
  t53 := Try.underlying100
  a53 := Try.isAgg100
  z53 := Try.sizeOf100
  v53 := Try.zeroValue100
  t57 := Try.underlying104
  a57 := Try.isAgg104
  z57 := Try.sizeOf104
  v57 := Try.zeroValue104
  t63 := Try.underlying106
  a63 := Try.isAgg106
  z63 := Try.sizeOf106
  v63 := Try.zeroValue106
  t64 := Try.underlying107
  a64 := Try.isAgg107
  z64 := Try.sizeOf107
  v64 := Try.zeroValue107 }
end Go.Proofs
namespace Go.Proofs.Ytaeabeofpkfadaa
open Go.RowKit Go.Maps Go.Sort Go.Shelf
attribute [local go_sem] Oper.semAt_some

theorem sorts25 (m : Nat) : AnyZI.SortsIn Try.prog Try.sorted25_ren Fence.wide m :=
  ⟨fun blk off cap ss W hH hblk hsz => callsIn_wide.2 (AnyM.slices_Sort_int Try.sort42 blk off cap ss W hH hblk hsz),
   fun p cap W => callsIn_wide.2 (AnyM.slices_Sort_int_none Try.sort42 p cap W)⟩

theorem same_of_below {w w' : World} (h : Below w.heap.size w w') : Same (fun _ => False) w w' :=
  ⟨h.os, h.tape, h.output, h.size, fun k hk _ => h.block k hk, fun k hk => by unfold World.shape?; rw [h.block k hk]⟩
/-- Numbers and how many there are are within bounds. -/
structure Bd (L : List Pr) : Prop where
  len : L.length ≤ 1000
  pid : ∀ p ∈ L, 1 ≤ p.pid ∧ p.pid ≤ 30000
def rdAny : Value → Option (DataW Unit × List MemPlace) := fun _ => some (.nil, [])
theorem insert_perm (x : Lit × DataW Unit) : ∀ l : List (Lit × DataW Unit), (DataW.insert x l).Perm (x :: l)
  | [] => List.Perm.refl _
  | y :: r => by
    unfold DataW.insert
    split
    · exact List.Perm.refl _
    · exact ((insert_perm x r).cons y).trans (List.Perm.swap _ _ _)
theorem foldr_insert_perm : ∀ l : List (Lit × DataW Unit), (l.foldr DataW.insert []).Perm l
  | [] => List.Perm.refl _
  | y :: r => (insert_perm y _).trans ((foldr_insert_perm r).cons y)
theorem sort_asc {L : List Int} (ha : L.Pairwise (· < ·)) {ss : List Int} (hp : ss.Perm L) : ss.mergeSort (fun x y => decide (x ≤ y)) = L := by
  refine List.Perm.eq_of_pairwise (le := fun a b => a ≤ b) (fun a b _ _ h1 h2 => by omega) ?_ (ha.imp (fun h => by omega)) ((List.mergeSort_perm _ _).trans hp)
  have := List.pairwise_mergeSort (le := fun x y : Int => decide (x ≤ y)) (fun a b c h1 h2 => by simp at h1 h2 ⊢; omega) (fun a b => by simp; omega) ss
  exact this.imp (fun h => by simpa using h)
theorem rd_pr {x : MapEntry} {pid : Int} (h : x.key = .int .i64 pid) (hp : 1 ≤ pid ∧ pid ≤ 30000) : Go.WideElems.rd Try.prog 3 rdAny x = some (Lit.int .i64 pid, DataW.nil) := by
  have hw : (Lit.int .i64 pid).wf = true := by
    simp [Lit.wf, IntKind.min, IntKind.max, IntKind.signed, IntKind.bits]
    omega
  have hk : keyOf Try.prog 3 x.key = some (Lit.int .i64 pid) := by
    rw [h]
    unfold keyOf mapKey
    rw [Try.underlying3]
    simp [hw]
  unfold Go.WideElems.rd
  rw [hk]
  rfl
theorem rg_prs : ∀ (l : List MapEntry) (K : List Pr), (∀ p ∈ K, 1 ≤ p.pid ∧ p.pid ≤ 30000) → l.map (fun e => (e.key, e.val)) = (alOf K).map (fun p => (kvi p.1, p.2)) →
    l.map (Go.WideElems.rg Try.prog 3 rdAny) = K.map (fun p => (Lit.int .i64 p.pid, DataW.nil)) ∧ ∀ x ∈ l, ∃ y, Go.WideElems.rd Try.prog 3 rdAny x = some y
  | [], [], _, _ => ⟨rfl, by simp⟩
  | [], p :: K, _, e => by simp [alOf] at e
  | x :: l, [], _, e => by simp [alOf] at e
  | x :: l, p :: K, hK, e => by
    simp only [alOf, List.map_cons, List.cons.injEq, Prod.mk.injEq] at e
    obtain ⟨⟨e1, e2⟩, e3⟩ := e
    obtain ⟨i1, i2⟩ := rg_prs l K (fun q hq => hK q (List.mem_cons_of_mem _ hq)) e3
    have hx := rd_pr e1 (hK p (List.mem_cons_self ..))
    refine ⟨?_, ?_⟩
    · rw [List.map_cons, List.map_cons, i1, Go.WideElems.rg_of hx]
    · intro y hy
      rcases List.mem_cons.1 hy with rfl | hy
      · exact ⟨_, hx⟩
      · exact i2 y hy
theorem TabAt.owns {w : World} {t m : Nat} {L : List Pr} {last : Int} (h : TabAt w t m L last) (hb : Bd L) : ∃ (nn : Nat) (D0 : DataW Unit), w.ownsMap Try.prog 3 rdAny m nn D0 ∧ Maps.size D0 = L.length ∧ (intKeys D0).Perm (L.map (·.pid)) := by
  obtain ⟨es, clk, h1, hst, h2⟩ := h.hm
  have hlen : es.size = L.length := by have := congrArg List.length h2; simpa [alOf] using this
  obtain ⟨hrg, hrd⟩ := rg_prs es.toList L hb.pid h2
  refine ⟨es.size, _, ⟨es, clk, h1, ⟨by have := hb.len; unfold maxLen; omega, hst, hrd⟩, Nat.le_refl _, rfl⟩, ?_, ?_⟩
  · rw [hrg]
    have := (foldr_insert_perm (L.map fun p => (Lit.int .i64 p.pid, DataW.nil))).length_eq
    simpa [Maps.size] using this
  · rw [hrg]
    unfold intKeys
    refine ((foldr_insert_perm _).map _).trans ?_
    rw [List.map_map]
    exact List.Perm.of_eq (List.map_congr_left fun p _ => rfl)

def pidv (L : List Pr) : List Value := L.map fun p => .int .i64 p.pid
theorem pids_nil (w : World) : Calls Try.prog 12 #[.pointer none] w fun e w' => e = .returned (.slice none 0 0) ∧ w' = w := by
  go_enter Try.func12, Try.ntmps12
  go_wp2
  go_ret
  exact ⟨rfl, rfl⟩
set_option maxHeartbeats 1000000 in
theorem pids_any {w : World} {t m : Nat} {L : List Pr} {last : Int} (h : TabAt w t m L last) (hb : Bd L) :
    Calls Try.prog 12 #[.pointer (some ⟨t, 0, none⟩)] w fun e w' => ∃ v, e = .returned v ∧ w'.ownsRow w.heap.size 3 1 v L.length (pidv L) ∧ (v = .slice none 0 0 ↔ L = []) ∧ Same (fun _ => False) w w' := by
  refine (callsIn_wide (n := 6)).1 ?_
  obtain ⟨nn, D0, hown, hsz, hperm⟩ := h.owns hb
  have hbl := hown.lt
  have ht0 := h.t0
  have hbt := h.lt.1
  have hmax : Maps.size D0 ≤ maxLen := by have := hb.len; unfold maxLen; omega
  have hbytes : Maps.size D0 * 8 ≤ 140737488355328 := by have := hb.len; omega
  have hseq : SeqGives Fence.wide 2 Try.prog 43 #[.pointer (some ⟨w.heap.size, 0, none⟩)] encZ (fun ss => ss.Perm (intKeys D0)) (Maps.size D0) (w.alloc (.cells #[.map (some m)] 61)) :=
    AnyZI.keys_gives (ρ := Try.keys26_ren) { Try.keys26 with } Fence.wide _ trivial rfl (by omega) w.heap.size m nn D0 _ (by simp) (by simp) (by
      obtain ⟨es, clock, hb, Ft, hs, hD⟩ := hown
      exact ⟨es, clock, (Below.heap_alloc _ _ m hbl).trans hb, Ft, hs, hD⟩)
  have cK : ∀ mb W, CallsIn Fence.wide 5 Try.prog 26 #[.map mb] W fun e w' => e = .returned (.func (.func 43) #[] #[.pointer (some ⟨W.heap.size, 0, none⟩)]) ∧ w' = W.alloc (.cells #[.map mb] 61) := fun mb W => AnyZI.keys_in Try.keys26 Fence.wide 5 trivial rfl mb W
  have cS := AnyZI.sorted_in Try.sorted25 Fence.wide 5 trivial trivial trivial trivial rfl (by omega) (sorts25 _) (enters_of Try.func42 (by kernel_rfl) rfl) 43 #[.pointer (some ⟨w.heap.size, 0, none⟩)] trivial (enters_of Try.func43 (by kernel_rfl) rfl) _ _ hmax hbytes _ hseq
  change CallsIn _ _ Try.prog 25 _ _ _ at cS
  have hfK : Fence.wide.fn 26 := trivial
  have hfS : Fence.wide.fn 25 := trivial
  have HP := Lib.hid hperm
  have HA := Lib.hid h.asc
  clear hperm h hseq hown
  refine callsIn_of_wp Try.func12 rfl trivial ?_ rfl
  simp only [Try.ntmps12, List.size_toArray, List.length_cons, List.length_nil, Nat.reduceAdd, Nat.reduceSub, Array.replicate_succ, Array.replicate_zero, List.push_toArray, List.append_toArray, List.nil_append, List.cons_append]
  gi_wp2_with (first
    | (gi_at_call 26; refine (cK _ _).mono ?_; rintro e w' ⟨rfl, rfl⟩)
    | (gi_at_call 25; refine cS.mono ?_; rintro e w' ⟨v, ss, rfl, hS, hrow, hnil, hb⟩))
  go_ret
  have hp2 : ss.Perm (L.map (·.pid)) := hS.trans HP.out
  have hl : ss.length = L.length := by simpa using hp2.length_eq
  have hss := sort_asc (List.pairwise_map.2 HA.out) hp2
  rw [hss, hl, List.map_map] at hrow
  refine ⟨v, rfl, ownsRow_base hrow (by simp), ?_, ?_⟩
  · rw [hnil]
    constructor
    · rintro rfl
      exact List.eq_nil_of_length_eq_zero (by simpa using hl.symm)
    · rintro rfl
      exact List.eq_nil_of_length_eq_zero (by simpa using hl)
  · exact (same_alloc _).trans (same_of_below hb)
end Go.Proofs.Ytaeabeofpkfadaa
