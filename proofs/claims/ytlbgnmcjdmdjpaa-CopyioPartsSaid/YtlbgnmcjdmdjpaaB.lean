import Derived.Test.YtlbgnmcjdmdjpaaA
import Derived.Lib.LazyBuf
import Derived.Laws.IdiomStrings
import Derived.Laws.BytesArg
namespace Go.Proofs.Ytlbgnmcjdmdjpaa
open Go.RowKit Go.Shelf
attribute [local go_sem] Oper.semAt_some

def Mm.refs (M : Mm) (a : Int) : Int := if M.isUsed a then M.R a.toNat else 0
theorem Mm.used_iff {M : Mm} {a : Int} (h : M.isUsed a = true) : ∃ k : Nat, a = k ∧ k < M.n ∧ 0 < M.R k := by
  have := of_decide_eq_true h
  obtain ⟨k, rfl⟩ := Int.eq_ofNat_of_zero_le this.1
  exact ⟨k, rfl, by omega, by simpa using this.2.2⟩

theorem refs_nil (w : World) (a : Int) : Calls Try.prog 57 #[.pointer none, .int .i64 a] w fun e w' => e = .returned (.int .i64 0) ∧ w = w' := by
  go_enter Try.func57, Try.ntmps57
  go_wp2_with fail
  refine (used_nil _ _).mono ?_
  rintro e w' ⟨rfl, rfl⟩
  go_wp2
  go_ret
  exact ⟨rfl, rfl⟩
theorem refs_any {w : World} {f fb : Nat} {M : Mm} (h : MemAt w f fb M) (a : Int) :
    Calls Try.prog 57 #[.pointer (some ⟨f, 0, none⟩), .int .i64 a] w fun e w' => e = .returned (.int .i64 (M.refs a)) ∧ Same (fun _ => False) w w' := by
  cases hu : M.isUsed a with
  | false =>
    go_enter Try.func57, Try.ntmps57
    go_wp2_with fail
    refine (used_bad h a hu).mono ?_
    rintro e w' ⟨rfl, hs⟩
    go_wp2
    go_ret
    exact ⟨by simp [Mm.refs, hu], hs⟩
  | true =>
    obtain ⟨k, rfl, hk, hR⟩ := Mm.used_iff hu
    go_enter Try.func57, Try.ntmps57
    go_wp2_with fail
    refine (used_ok h k hk hR).mono ?_
    rintro e w' ⟨rfl, hs⟩
    have hc := (h.same0 hs).rc k hk
    go_wp2
    go_ret
    exact ⟨by simp [Mm.refs, hu], hs⟩

/-- Another count at a frame. -/
def Mm.setR (M : Mm) (k : Nat) (v : Int) : Mm := { M with R := fun i => if i = k then v else M.R i }
theorem MemAt.setR {w : World} {f fb : Nat} {M : Mm} (h : MemAt w f fb M) {k : Nat} (hk : k < M.n) {v : Int} (hv : 0 ≤ v ∧ v < 1000000) : MemAt (w.setCell ⟨fb, k * 65, none⟩ (.int .i64 v)) f fb (M.setR k v) := by
  have hne := h.ne
  refine ⟨?_, fun i hi => ?_, fun i hi j hj => ?_, fun o => ?_, ?_, ?_, fun i hi => ?_, h.ne, h.n1, h.n2⟩
  · rw [World.cell?_setCell_other _ _ _ _ (by simp <;> omega)]; exact h.f0
  · by_cases e : i = k
    · subst e; simp only [Mm.setR, if_true]; exact World.cell?_setCell_same _ _ _ (h.rc i hi)
    · rw [World.cell?_setCell_other _ _ _ _ (by simp <;> omega)]; simp only [Mm.setR, if_neg e]; exact h.rc i hi
  · rw [World.cell?_setCell_other _ _ _ _ (by simp <;> omega)]; exact h.bc i hi j hj
  · rw [World.frozen?_setCell]; exact h.fz o
  · simp only [shape_setCell]; exact h.sh
  · simp only [shape_setCell]; exact h.sf
  · simp only [Mm.setR]; split
    · exact hv
    · exact h.rR i hi

theorem free_nil (w : World) (a : Int) : Calls Try.prog 66 #[.pointer none, .int .i64 a] w fun e w' => e = .returned (.int .i64 1) ∧ w = w' := by
  go_enter Try.func66, Try.ntmps66
  go_wp2_with fail
  refine (used_nil _ _).mono ?_
  rintro e w' ⟨rfl, rfl⟩
  go_wp2
  go_ret
  exact ⟨rfl, rfl⟩
def Mm.free (M : Mm) (a : Int) : Mm := if M.isUsed a then M.setR a.toNat (M.R a.toNat - 1) else M
theorem free_any {w : World} {f fb : Nat} {M : Mm} (hM : MemAt w f fb M) (a : Int) :
    Calls Try.prog 66 #[.pointer (some ⟨f, 0, none⟩), .int .i64 a] w fun e w' => e = .returned (.int .i64 (if M.isUsed a then 0 else 10)) ∧ MemAt w' f fb (M.free a) ∧ Same (· = fb) w w' := by
  cases hu : M.isUsed a with
  | false =>
    go_enter Try.func66, Try.ntmps66
    go_wp2_with fail
    refine (used_bad hM a hu).mono ?_
    rintro e w' ⟨rfl, hs⟩
    go_wp2
    go_ret
    exact ⟨by simp, by simp only [Mm.free, hu, Bool.false_eq_true, if_false]; exact hM.same0 hs, hs.mono (fun _ _ h => h.elim)⟩
  | true =>
    obtain ⟨k, rfl, hk, hR⟩ := Mm.used_iff hu
    go_enter Try.func66, Try.ntmps66
    go_wp2_with fail
    refine (used_ok hM k hk hR).mono ?_
    rintro e w' ⟨rfl, hs⟩
    have h' := hM.same0 hs
    have hc := h'.rc k hk
    have hz := h'.fz (k * 65)
    have hr := hM.rR k hk
    have h2 := h'.setR hk (v := M.R k - 1) (by omega)
    have hs2 : Same (· = fb) w (w'.setCell ⟨fb, k * 65, none⟩ (.int .i64 (M.R k - 1))) := (hs.mono (fun _ _ h => h.elim)).setCell _ (.inr rfl)
    go_wp2
    go_ret
    exact ⟨by simp, by simp only [Mm.free, hu, Int.toNat_natCast, if_true]; exact h2, hs2⟩

/-- So many bytes of a frame. -/
def Mm.bytes (M : Mm) (k from_ len : Nat) : List UInt8 := (List.range len).map fun j => M.B k (from_ + j)
def Mm.str (M : Mm) (k from_ len : Nat) : ByteArray := ⟨(M.bytes k from_ len).toArray⟩

theorem read_nil (w : World) (a s l : Int) : Calls Try.prog 35 #[.pointer none, .int .i64 a, .int .i64 s, .int .i64 l] w fun e w' => e = .returned (.tuple #[.string ByteArray.empty, .int .i64 1]) ∧ w = w' := by
  go_enter Try.func35, Try.ntmps35
  go_wp2_with fail
  refine (used_nil _ _).mono ?_
  rintro e w' ⟨rfl, rfl⟩
  go_wp2
  go_ret2
  exact ⟨rfl, rfl⟩
theorem read_bad {w : World} {f fb : Nat} {M : Mm} (h : MemAt w f fb M) (a s l : Int) (hu : M.isUsed a = false) :
    Calls Try.prog 35 #[.pointer (some ⟨f, 0, none⟩), .int .i64 a, .int .i64 s, .int .i64 l] w fun e w' => e = .returned (.tuple #[.string ByteArray.empty, .int .i64 10]) ∧ Same (fun _ => False) w w' := by
  go_enter Try.func35, Try.ntmps35
  go_wp2_with fail
  refine (used_bad h a hu).mono ?_
  rintro e w' ⟨rfl, hs⟩
  go_wp2
  go_ret2
  exact ⟨rfl, hs⟩
theorem slice_lh (w : World) (fb o s l : Nat) (hs : s < 64) (hl : s + l ≤ 64) :
    (Instr.sliceAt 133 (.pointer (some ⟨fb, o, none⟩)) (some (.int .i64 s)) (some (.int .i64 (s + l))) none).run Try.prog w = .ok (.slice (some ⟨fb, o + s, none⟩) l (64 - s)) w := by
  have ht : Try.prog.underlying 133 = some (.array (Try.prog.arrayLen 133) (Try.prog.elem 133)) := by kernel_rfl
  have hn : Try.prog.arrayLen 133 = 64 := by kernel_rfl
  have hz : (sizeOf (Try.prog.elem 133)).run Try.prog w = .ok 1 w := by
    have : (Try.prog.info? (Try.prog.elem 133)).map (·.size) = some 1 := by kernel_rfl
    simp [go_sem, this]
  rw [run_sliceAt_array_lh w 133 ⟨fb, o, none⟩ ht .i64 .i64 s (s + l) (by omega) (by omega) (by rw [hn]; omega), hz]
  have e : ((s : Int) + l).toNat - s = l := by omega
  have e2 : (⟨fb, o, none⟩ : Addr).add s = ⟨fb, o + s, none⟩ := by unfold Addr.add; split <;> simp_all
  simp [slicedAt, Result.andThen, hn, e, e2, show ¬ 64 = s by omega]
theorem slice_l (w : World) (fb o s : Nat) (hs : s < 64) :
    (Instr.sliceAt 133 (.pointer (some ⟨fb, o, none⟩)) (some (.int .i64 s)) none none).run Try.prog w = .ok (.slice (some ⟨fb, o + s, none⟩) (64 - s) (64 - s)) w := by
  have ht : Try.prog.underlying 133 = some (.array (Try.prog.arrayLen 133) (Try.prog.elem 133)) := by kernel_rfl
  have hn : Try.prog.arrayLen 133 = 64 := by kernel_rfl
  have hz : (sizeOf (Try.prog.elem 133)).run Try.prog w = .ok 1 w := by
    have : (Try.prog.info? (Try.prog.elem 133)).map (·.size) = some 1 := by kernel_rfl
    simp [go_sem, this]
  rw [run_sliceAt_array_l w 133 ⟨fb, o, none⟩ ht .i64 s (by omega) (by rw [hn]; omega), hz]
  have e2 : (⟨fb, o, none⟩ : Addr).add s = ⟨fb, o + s, none⟩ := by unfold Addr.add; split <;> simp_all
  simp [slicedAt, Result.andThen, hn, e2, show ¬ 64 = s by omega]

set_option maxHeartbeats 1600000 in
set_option maxRecDepth 8192 in
theorem read_ok {w : World} {f fb : Nat} {M : Mm} (h : MemAt w f fb M) (k s l : Nat) (hk : k < M.n) (hR : 0 < M.R k) (hs64 : s < 64) (hl : s + l ≤ 64) :
    Calls Try.prog 35 #[.pointer (some ⟨f, 0, none⟩), .int .i64 k, .int .i64 s, .int .i64 l] w fun e w' => e = .returned (.tuple #[.string (M.str k s l), .int .i64 0]) ∧ Same (fun _ => False) w w' := by
  have hn2 := h.n2
  have hd : decide (0 ≤ (s : Int) ∧ (s : Int) ≤ 64 ∧ 0 ≤ (l : Int) ∧ (l : Int) ≤ 64) = true := by simp; omega
  go_enter Try.func35, Try.ntmps35
  go_wp2_with fail
  refine (used_ok h k hk hR).mono ?_
  rintro e w1 ⟨rfl, hs⟩
  go_wp2_with fail
  refine (within2 _ _ _ (s : Int) (l : Int) (by simp) (by simp)).mono ?_
  rintro e w2 ⟨rfl, hw⟩
  rw [hd]
  have hs2 : Same (fun _ => False) w w2 := by rw [← hw]; exact hs.trans (same_alloc _)
  have h' := h.same0 hs2
  have hlb := h'.lt.2
  have hcv := run_convert_bytes_back (P := Try.prog) w2 66 9 5 ⟨fb, k * 65 + 1 + s, none⟩ (64 - s) (M.bytes k s l) Try.underlying66 Try.underlying5 Try.underlying9 (by
    intro j hj
    have hj' : j < l := by simpa [Mm.bytes] using hj
    have hplain : (⟨fb, k * 65 + 1 + s, none⟩ : Addr).add j = ⟨fb, k * 65 + 1 + (s + j), none⟩ := by unfold Addr.add; split <;> simp_all [Nat.add_assoc]
    rw [hplain, h'.bc k hk (s + j) (by omega)]
    simp [Mm.bytes])
  have hbl : (M.bytes k s l).length = l := by simp [Mm.bytes]
  rw [hbl] at hcv
  have hsl := slice_lh w2 fb (k * 65 + 1) s l hs64 hl
  clear hw
  go_wp2
  go_ret2
  exact ⟨rfl, hs2⟩

/-- Bytes written to a frame. -/
def Mm.wr (M : Mm) (k from_ : Nat) (s : ByteArray) : Mm := { M with B := fun i o => if i = k ∧ from_ ≤ o ∧ o < from_ + s.size then (s.data.toList[o - from_]?).getD 0 else M.B i o }
theorem MemAt.wr {w : World} {f fb : Nat} {M : Mm} (h : MemAt w f fb M) {k from_ : Nat} (hk : k < M.n) (s : ByteArray) (hl : from_ + s.size ≤ 64) :
    MemAt (w.setCells fb (k * 65 + 1 + from_) (s.data.toList.map fun x => Value.int .u8 (x.toNat : Int))) f fb (M.wr k from_ s) ∧ Same (· = fb) w (w.setCells fb (k * 65 + 1 + from_) (s.data.toList.map fun x => Value.int .u8 (x.toNat : Int))) := by
  have hne := h.ne
  have hlen : (s.data.toList.map fun x => Value.int .u8 (x.toNat : Int)).length = s.size := by rw [List.length_map, ← Lib.size_eq]
  have hsame : ∀ (vs : List Value) (o : Nat) (W : World), Same (· = fb) W (W.setCells fb o vs) := by
    intro vs
    induction vs with
    | nil => intro o W; exact Same.refl _ _
    | cons v r ih => intro o W; exact ((Same.refl (· = fb) W).setCell (a := ⟨fb, o, none⟩) v (.inr rfl)).trans (ih (o + 1) _)
  have hs := hsame (s.data.toList.map fun x => Value.int .u8 (x.toNat : Int)) (k * 65 + 1 + from_) w
  obtain ⟨n, hn⟩ := h.sh
  obtain ⟨n', hn'⟩ := h.sf
  refine ⟨⟨?_, fun i hi => ?_, fun i hi j hj => ?_, fun o => ?_, ⟨n, (hs.shp _ h.lt.2).trans hn⟩, ⟨n', (hs.shp _ h.lt.1).trans hn'⟩, h.rR, h.ne, h.n1, h.n2⟩, hs⟩
  · exact hs.cell h.f0 (by simp only; omega)
  · rw [World.cell?_setCells_out _ _ _ _ _ (fun _ _ => by rw [hlen]; simp only; omega)]; exact h.rc i hi
  · by_cases hin : i = k ∧ from_ ≤ j ∧ j < from_ + s.size
    · obtain ⟨rfl, h1, h2⟩ := hin
      have := World.cell?_setCells_in fb (s.data.toList.map fun x => Value.int .u8 (x.toNat : Int)) (i * 65 + 1 + from_) w (fun q hq => by
        rw [hlen] at hq
        have := h.bc i hi (from_ + q) (by omega)
        rw [show i * 65 + 1 + from_ + q = i * 65 + 1 + (from_ + q) by omega, this]; rfl) (j - from_) (by rw [hlen]; omega)
      rw [show i * 65 + 1 + from_ + (j - from_) = i * 65 + 1 + j by omega] at this
      rw [this]
      have hl2 : j - from_ < s.data.toList.length := by have := Lib.size_eq s; omega
      have hl3 : j - from_ < s.data.size := by simpa using hl2
      simp [Mm.wr, h1, h2, Array.getElem?_eq_getElem hl3]
    · rw [World.cell?_setCells_out _ _ _ _ _ (fun _ _ => by rw [hlen]; simp only; omega)]
      simp only [Mm.wr, if_neg hin]; exact h.bc i hi j hj
  · rw [World.frozen?_setCells]; exact h.fz o

theorem write_bad {w : World} {f fb : Nat} {M : Mm} (h : MemAt w f fb M) (a q : Int) (s : ByteArray) (hu : M.isUsed a = false) :
    Calls Try.prog 80 #[.pointer (some ⟨f, 0, none⟩), .int .i64 a, .int .i64 q, .string s] w fun e w' => e = .returned (.int .i64 10) ∧ Same (fun _ => False) w w' := by
  go_enter Try.func80, Try.ntmps80
  go_wp2_with fail
  refine (used_bad h a hu).mono ?_
  rintro e w' ⟨rfl, hs⟩
  go_wp2
  go_ret
  exact ⟨rfl, hs⟩
set_option maxHeartbeats 1600000 in
set_option maxRecDepth 8192 in
theorem write_ok {w : World} {f fb : Nat} {M : Mm} (h : MemAt w f fb M) (k q : Nat) (s : ByteArray) (hk : k < M.n) (hR : 0 < M.R k) (hs64 : q < 64) (hl : q + s.size ≤ 64) :
    Calls Try.prog 80 #[.pointer (some ⟨f, 0, none⟩), .int .i64 k, .int .i64 q, .string s] w fun e w' => e = .returned (.int .i64 0) ∧ MemAt w' f fb (M.wr k q s) ∧ Same (· = fb) w w' := by
  have hn2 := h.n2
  have hd : decide (0 ≤ (q : Int) ∧ (q : Int) ≤ 64 ∧ 0 ≤ (s.size : Int) ∧ (s.size : Int) ≤ 64) = true := by simp; omega
  go_enter Try.func80, Try.ntmps80
  go_wp2_with fail
  refine (used_ok h k hk hR).mono ?_
  rintro e w1 ⟨rfl, hs⟩
  go_wp2_with fail
  refine (within2 _ _ _ (q : Int) (s.size : Int) (by simp) (by simp)).mono ?_
  rintro e w2 ⟨rfl, hw⟩
  rw [hd]
  have hs2 : Same (fun _ => False) w w2 := by rw [← hw]; exact hs.trans (same_alloc _)
  have h' := h.same0 hs2
  have hlb := h'.lt.2
  have hcp := fun ty => run_copy_string (P := Try.prog) w2 66 9 ty 5 fb (k * 65 + 1 + q) (64 - q) (64 - q) s Try.underlying66 (fun w => by
      have : (Try.prog.info? 5).map (·.size) = some 1 := by kernel_rfl
      simp [go_sem, this]) (by omega) (fun j hj => by
        have := h'.bc k hk (q + j) (by omega)
        rw [show k * 65 + 1 + q + j = k * 65 + 1 + (q + j) by omega, this]; rfl) (fun j _ => h'.fz _)
  obtain ⟨h3, hs3⟩ := h'.wr hk s hl
  have hsl := slice_l w2 fb (k * 65 + 1) q hs64
  clear hw
  go_wp2
  go_ret
  exact ⟨rfl, h3, (hs2.mono (fun _ _ h => h.elim)).trans hs3⟩

theorem share_nil (w : World) (a : Int) : Calls Try.prog 115 #[.pointer none, .int .i64 a] w fun e w' => e = .returned (.int .i64 1) ∧ w = w' := by
  go_enter Try.func115, Try.ntmps115
  go_wp2_with fail
  refine (used_nil _ _).mono ?_
  rintro e w' ⟨rfl, rfl⟩
  go_wp2
  go_ret
  exact ⟨rfl, rfl⟩

/-- The iterator over the frames that nobody has: J holds between rounds. -/
theorem unused1 (l bx f fb n : Nat) (R : Nat → Int) (J : Nat → World → Prop) (Jx : World → Prop) (hn : 1 ≤ n ∧ n ≤ 256)
    (hc : ∀ i W, i < n → J i W → W.cell? ⟨fb, i * 65, none⟩ = some (.int .i64 (R i)) ∧ W.cell? ⟨f, 0, none⟩ = some (.slice (some ⟨fb, 0, none⟩) n n) ∧ W.cell? ⟨bx, 0, none⟩ = some (.pointer (some ⟨f, 0, none⟩)))
    (hno : ∀ i W, i < n → J i W → 0 < R i → J (i + 1) W)
    (hy : ∀ i W, i < n → J i W → R i ≤ 0 → YieldAt Fence.wide 0 Try.prog l #[.int .i64 i] W fun e W' =>
      (e = .returned (.bool true) ∧ J (i + 1) W') ∨ (e = .returned (.bool false) ∧ Jx W'))
    (w : World) (h0 : J 0 w) :
    Calls Try.prog 102 #[.func (.yield l) #[] #[], .pointer (some ⟨bx, 0, none⟩)] w fun e W => (∃ v, e = .returned v) ∧ (J n W ∨ Jx W) := by
  obtain ⟨hn1, hn2⟩ := hn
  obtain ⟨c00, c01, c02⟩ := hc 0 w (by omega) h0
  refine (callsIn_wide (n := 0)).1 ?_
  refine callsIn_of_wp Try.func102 rfl trivial ?_ rfl
  simp only [Try.ntmps102, List.size_toArray, List.length_cons, List.length_nil, Nat.reduceAdd, Nat.reduceSub, Array.replicate_succ, Array.replicate_zero, List.push_toArray, List.append_toArray, List.nil_append, List.cons_append]
  gi_wp2
  refine wpIn_scope_straight ?_
  gi_wp2
  refine wpIn_label ?_
  gi_wp2
  gi_loopw [9] (fun p wr => ∃ k : Nat, k ≤ n ∧ p = .int .i64 k ∧ J k wr) (fun p _ => n - (intOf p).toNat)
  case atStart => exact ⟨0, by omega, rfl, h0⟩
  case round =>
    obtain ⟨k, hk, rfl, hJ⟩ := hrel
    clear c00 c01 c02
    by_cases hlt : k < n
    · obtain ⟨c0, c1, c2⟩ := hc k wr hlt hJ
      have hlti : (k : Int) < n := by omega
      by_cases hz : 0 < R k
      · have hJ' := hno k wr hlt hJ hz
        have hzb : decide (0 < R k) = true := by simpa using hz
        clear hz
        gi_wp2_with (gi_at_call 103; refine CallsIn.mono (callsIn_wide.2 (isUsed_any _ _ _ _ c0)) ?_; rintro e w' ⟨rfl, rfl⟩)
        go_roundw
        case rel => exact ⟨k + 1, by omega, by go_num, hJ'⟩
        case measure => simp [intOf]; omega
      · have hzb : decide (0 < R k) = false := by simpa using hz
        have hz := Int.not_lt.1 hz
        have HZ := Lib.hid hz
        clear hz
        obtain ⟨fn, tmps, assign, body, hye, hR⟩ := hy k wr hlt hJ HZ.out
        gi_wp2_with (gi_at_call 103; refine CallsIn.mono (callsIn_wide.2 (isUsed_any _ _ _ _ c0)) ?_; rintro e w' ⟨rfl, rfl⟩)
        refine hR.mono ?_
        rintro e W3 (⟨rfl, hJ3⟩ | ⟨rfl, hJx3⟩)
        · gi_wp2
          go_roundw
          case rel => exact ⟨k + 1, by omega, by go_num, hJ3⟩
          case measure => simp [intOf]; omega
        · gi_wp2
          simp only [Exit.noGoto]
          exact bodyPost_ret (results_none rfl _ _ _) rfl ⟨⟨_, rfl⟩, .inr hJx3⟩
    · obtain rfl : k = n := by omega
      gi_wp2
      simp only [Exit.noGoto]
      exact bodyPost_end (results_none rfl _ _ _) rfl ⟨⟨_, rfl⟩, .inl hJ⟩
end Go.Proofs.Ytlbgnmcjdmdjpaa
