import Derived.Test.YtcllofffbmbmlaaA
import Derived.Test.YtcllofffbmbmlaaMp
namespace Go.Proofs.Ytcllofffbmbmlaa
open Go.RowKit Go.Shelf
attribute [local go_sem] Oper.semAt_some

/-- A descriptor: whose, which, the open file's block, what it is of. -/
structure Ent where
  pid : Int
  fd : Nat
  blk : Nat
  kind : Int
  thing : Int
def ent (L : List Ent) (pid fd : Int) : Option Ent := L.find? (fun e => e.pid = pid ∧ (e.fd : Int) = fd)
def slot (L : List Ent) (pid : Int) (fd : Nat) : Option Nat := (ent L pid fd).map (·.blk)
theorem ent_some {L : List Ent} {pid fd : Int} {e : Ent} (h : ent L pid fd = some e) : e ∈ L ∧ e.pid = pid ∧ (e.fd : Int) = fd := by
  have h1 := List.find?_some h
  simp only [decide_eq_true_eq] at h1
  exact ⟨List.mem_of_find?_eq_some h, h1⟩
def refs (L : List Ent) (b : Nat) : Nat := (L.filter (·.blk = b)).length
def cnt : List Ent → Nat
  | [] => 0
  | e :: r => cnt r + if refs r e.blk = 0 then 1 else 0

abbrev kvi : Int → Value := fun n => .int .i64 n
theorem MapIs_alloc {w : World} {m : Nat} {al : List (Int × Value)} (h : MapIs kvi w m al) (o : Obj) : MapIs kvi (w.alloc o) m al := h.same (same_alloc o) (by simp)
theorem MapIs_setCell {w : World} {m : Nat} {al : List (Int × Value)} (h : MapIs kvi w m al) (a : Addr) (v : Value) : MapIs kvi (w.setCell a v) m al := by
  obtain ⟨es, clk, h1, h2⟩ := h
  refine ⟨es, clk, ?_, h2⟩
  simp only [World.setCell, Array.getElem?_modify]
  by_cases e : a.block = m
  · rw [if_pos e, h1]; rfl
  · rw [if_neg e, h1]
theorem MapIs_drewN {w : World} {m : Nat} {al : List (Int × Value)} (h : MapIs kvi w m al) (n : Nat) : MapIs kvi (w.drewN n) m al := h
theorem MapIs_drew {w : World} {m : Nat} {al : List (Int × Value)} (h : MapIs kvi w m al) : MapIs kvi w.drew m al := h
theorem lk57 {W : World} {m : Nat} {al : List (Int × Value)} (hm : MapIs kvi W m al) (pid : Int) :
    (Instr.lookup 57 (.map (some m)) (.int .i64 pid) true).run Try.prog W = .ok (.tuple #[(aget al pid).getD (.pointer none), .bool (aget al pid).isSome]) W :=
  run_lookup_is (P := Try.prog) (T := 57) (K := 3) (E := 61) Try.underlying57 (key_int Try.underlying3) (fun _ => by kernel_rfl) hm pid true
theorem lk57n {W : World} {m : Nat} {al : List (Int × Value)} (hm : MapIs kvi W m al) (pid : Int) :
    (Instr.lookup 57 (.map (some m)) (.int .i64 pid) false).run Try.prog W = .ok ((aget al pid).getD (.pointer none)) W :=
  run_lookup_is (P := Try.prog) (T := 57) (K := 3) (E := 61) Try.underlying57 (key_int Try.underlying3) (fun _ => by kernel_rfl) hm pid false
attribute [local go_sem] MapIs_alloc MapIs_setCell MapIs_drewN MapIs_drew

def FileAt (w : World) (b : Nat) (k t : Int) (r : Nat) : Prop :=
  w.cell? ⟨b, 0, none⟩ = some (.int .i64 k) ∧ w.cell? ⟨b, 1, none⟩ = some (.int .i64 t) ∧ w.cell? ⟨b, 2, none⟩ = some (.int .i64 r) ∧ w.frozen? ⟨b, 2, none⟩ = false ∧ w.shape? b = some (65, 3)

structure Rep (w : World) (f m : Nat) (L : List Ent) (al : List (Int × Value)) : Prop where
  f0 : w.cell? ⟨f, 0, none⟩ = some (.map (some m))
  f1 : w.cell? ⟨f, 1, none⟩ = some (.int .i64 (cnt L))
  ff : w.frozen? ⟨f, 1, none⟩ = false
  fs : w.shape? f = some (59, 2)
  hm : MapIs kvi w m al
  nd : (al.map (·.1)).Nodup
  row : ∀ p v, (p, v) ∈ al → ∃ rb, v = .pointer (some ⟨rb, 0, none⟩) ∧ RowAt w rb (slot L p) ∧ (∀ i, i < 8 → w.frozen? ⟨rb, i, none⟩ = false) ∧ w.shape? rb = some (80, 8)
  inj : ∀ p q v, (p, v) ∈ al → (q, v) ∈ al → p = q
  has : ∀ e ∈ L, e.pid ∈ al.map (·.1)
  file : ∀ e ∈ L, FileAt w e.blk e.kind e.thing (refs L e.blk)
  rng : ∀ e ∈ L, e.fd < 8 ∧ 1 ≤ e.pid
  key : L.Pairwise (fun a b => ¬ (a.pid = b.pid ∧ a.fd = b.fd))
  lof : m ≤ f
  lor : ∀ p rb, (p, Value.pointer (some ⟨rb, 0, none⟩)) ∈ al → m ≤ rb
  lob : ∀ e ∈ L, m ≤ e.blk

def fnd (L : List Ent) (pid fd : Int) : Option Nat × Int :=
  if pid < 1 then (none, 2) else match ent L pid fd with
    | none => (none, 80)
    | some e => (some e.blk, 0)

theorem ent_none_of {w : World} {f m : Nat} {L : List Ent} {al : List (Int × Value)} (h : Rep w f m L al) {pid : Int} (hn : aget al pid = none) (fd : Int) : ent L pid fd = none := by
  cases hx : ent L pid fd with
  | none => rfl
  | some e =>
    obtain ⟨h1, h2, _⟩ := ent_some hx
    have h3 := h.has e h1
    rw [aget_none] at hn
    exact absurd (h2 ▸ h3) hn
theorem ent_rng {w : World} {f m : Nat} {L : List Ent} {al : List (Int × Value)} (h : Rep w f m L al) {pid fd : Int} (hn : fd < 0 ∨ 8 ≤ fd) : ent L pid fd = none := by
  cases hx : ent L pid fd with
  | none => rfl
  | some e =>
    obtain ⟨h1, _, h2⟩ := ent_some hx
    have h3 := (h.rng e h1).1
    omega

set_option maxHeartbeats 800000 in
theorem find_any {w : World} {f m : Nat} {L : List Ent} {al : List (Int × Value)} (h : Rep w f m L al) (pid fd : Int) :
    Calls Try.prog 26 #[.pointer (some ⟨f, 0, none⟩), .int .i64 pid, .int .i64 fd] w fun e w' =>
      e = .returned (.tuple #[pv (fnd L pid fd).1, .int .i64 (fnd L pid fd).2]) ∧ Same (fun _ => False) w w' := by
  have hf0 := h.f0
  have hlf : f < w.heap.size := World.block_lt_of_cell? _ _ hf0
  have hm := h.hm
  have hlk := fun (W : World) (hm : MapIs kvi W m al) => lk57 hm pid
  by_cases hp : pid < 1
  · have hfin : fnd L pid fd = (none, 2) := by simp [fnd, hp]
    have H := Lib.hid hfin
    clear hfin
    have h1 : decide (1 ≤ pid) = false := by simpa using hp
    go_enter Try.func26, Try.ntmps26
    go_wp2_with (go_at_call 23; refine (check1 _ w.heap.size _ pid (by simp [go_sem])).mono ?_; rintro e w' ⟨rfl, rfl⟩)
    go_ret2
    rw [H.out]
    exact ⟨rfl, same_alloc _⟩
  · cases hg : aget al pid with
    | none =>
      have hfin : fnd L pid fd = (none, 80) := by simp [fnd, hp, ent_none_of h hg]
      have H := Lib.hid hfin
      clear hfin
      go_enter Try.func26, Try.ntmps26
      go_wp2_with (go_at_call 23; refine (check1 _ w.heap.size _ pid (by simp [go_sem])).mono ?_; rintro e w' ⟨rfl, rfl⟩)
      go_ret2
      rw [H.out]
      exact ⟨rfl, same_alloc _⟩
    | some v =>
      obtain ⟨rb, rfl, hr, hz, hs⟩ := h.row pid v (aget_mem hg)
      by_cases h0 : fd < 0
      · have hfin : fnd L pid fd = (none, 80) := by simp [fnd, hp, ent_rng h (pid := pid) (.inl h0)]
        have H := Lib.hid hfin
        clear hfin hr hz
        go_enter Try.func26, Try.ntmps26
        go_wp2_with (go_at_call 23; refine (check1 _ w.heap.size _ pid (by simp [go_sem])).mono ?_; rintro e w' ⟨rfl, rfl⟩)
        go_ret2
        rw [H.out]
        exact ⟨rfl, same_alloc _⟩
      · by_cases h8 : 8 ≤ fd
        · have hfin : fnd L pid fd = (none, 80) := by simp [fnd, hp, ent_rng h (pid := pid) (.inr h8)]
          have H := Lib.hid hfin
          clear hfin hr hz
          go_enter Try.func26, Try.ntmps26
          go_wp2_with (go_at_call 23; refine (check1 _ w.heap.size _ pid (by simp [go_sem])).mono ?_; rintro e w' ⟨rfl, rfl⟩)
          go_ret2
          rw [H.out]
          exact ⟨rfl, same_alloc _⟩
        · obtain ⟨k, rfl⟩ := Int.eq_ofNat_of_zero_le (by omega : 0 ≤ fd)
          have hc := hr k (by omega)
          have hlr : rb < w.heap.size := World.block_lt_of_cell? _ _ hc
          unfold slot at hc
          cases hsl : ent L pid k with
          | none =>
            have hfin : fnd L pid k = (none, 80) := by simp [fnd, hp, hsl]
            have H := Lib.hid hfin
            rw [hsl] at hc
            simp only [pv, Option.map_none] at hc
            clear hfin hr hz hsl
            go_enter Try.func26, Try.ntmps26
            go_wp2_with (go_at_call 23; refine (check1 _ w.heap.size _ pid (by simp [go_sem])).mono ?_; rintro e w' ⟨rfl, rfl⟩)
            go_ret2
            rw [H.out]
            exact ⟨rfl, same_alloc _⟩
          | some b =>
            have hfin : fnd L pid k = (some b.blk, 0) := by simp [fnd, hp, hsl]
            have H := Lib.hid hfin
            rw [hsl] at hc
            simp only [pv, Option.map_some] at hc
            clear hfin hr hz hsl
            go_enter Try.func26, Try.ntmps26
            go_wp2_with (go_at_call 23; refine (check1 _ w.heap.size _ pid (by simp [go_sem])).mono ?_; rintro e w' ⟨rfl, rfl⟩)
            go_ret2
            rw [H.out]
            exact ⟨rfl, same_alloc _⟩

def getV (L : List Ent) (pid fd : Int) : Value × Int :=
  if pid < 1 then (.agg #[.int .i64 0, .int .i64 0], 2) else match ent L pid fd with
    | none => (.agg #[.int .i64 0, .int .i64 0], 80)
    | some e => (.agg #[.int .i64 e.kind, .int .i64 e.thing], 0)

/-- The blocks that a Files owns. -/
def Own (w : World) (m b : Nat) : Prop := m ≤ b ∧ (b = m ∨ ∃ t n, w.shape? b = some (t, n) ∧ (t = 59 ∨ t = 80 ∨ t = 65))

theorem Rep.same {w w' : World} {f m : Nat} {L : List Ent} {al : List (Int × Value)} {S : Nat → Prop} (h : Rep w f m L al) (hs : Same S w w') (hS : ∀ b, b < w.heap.size → S b → ¬ Own w m b) : Rep w' f m L al := by
  have lt : ∀ {a : Addr} {v : Value}, w.cell? a = some v → a.block < w.heap.size := fun hc => World.block_lt_of_cell? _ _ hc
  have hf : ¬ S f := fun hh => hS f (lt h.f0) hh ⟨h.lof, .inr ⟨_, _, h.fs, by simp⟩⟩
  have hm : ¬ S m := fun hh => hS m h.hm.lt hh ⟨Nat.le_refl _, .inl rfl⟩
  refine ⟨hs.cell h.f0 hf, hs.cell h.f1 hf, hs.unfrozen h.f1 h.ff hf, (hs.shp f (lt h.f0)).trans h.fs, h.hm.same hs hm, h.nd, ?_, h.inj, h.has, ?_, h.rng, h.key, h.lof, h.lor, h.lob⟩
  · intro p v hpv
    obtain ⟨rb, h1, h2, h3, h4⟩ := h.row p v hpv
    have hlt := lt (h2 0 (by omega))
    have hr : ¬ S rb := fun hh => hS rb hlt hh ⟨h.lor p rb (h1 ▸ hpv), .inr ⟨_, _, h4, by simp⟩⟩
    exact ⟨rb, h1, fun i hi => hs.cell (h2 i hi) hr, fun i hi => hs.unfrozen (h2 i hi) (h3 i hi) hr, (hs.shp rb hlt).trans h4⟩
  · intro e he
    obtain ⟨h1, h2, h3, h4, h5⟩ := h.file e he
    have hlt := lt h1
    have hr : ¬ S e.blk := fun hh => hS e.blk hlt hh ⟨h.lob e he, .inr ⟨_, _, h5, by simp⟩⟩
    exact ⟨hs.cell h1 hr, hs.cell h2 hr, hs.cell h3 hr, hs.unfrozen h3 h4 hr, (hs.shp e.blk hlt).trans h5⟩
theorem Rep.same0 {w w' : World} {f m : Nat} {L : List Ent} {al : List (Int × Value)} (h : Rep w f m L al) (hs : Same (fun _ => False) w w') : Rep w' f m L al := h.same hs (fun _ _ hh => hh.elim)

/-- What a fresh block of two cells holds behind a call that keeps it. -/
theorem new2 {w w' : World} {x y : Value} {t : TypeId} {S : Nat → Prop} (hs : Same S (w.alloc (.cells #[x, y] t)) w') (hS : ¬ S w.heap.size) :
    w'.cell? ⟨w.heap.size, 0, none⟩ = some x ∧ w'.cell? ⟨w.heap.size, 1, none⟩ = some y ∧ w'.frozen? ⟨w.heap.size, 0, none⟩ = false ∧ w'.frozen? ⟨w.heap.size, 1, none⟩ = false ∧ w.heap.size < w'.heap.size := by
  have h0 : (w.alloc (.cells #[x, y] t)).cell? ⟨w.heap.size, 0, none⟩ = some x := by simp
  have h1 : (w.alloc (.cells #[x, y] t)).cell? ⟨w.heap.size, 1, none⟩ = some y := by simp
  refine ⟨hs.cell h0 hS, hs.cell h1 hS, hs.unfrozen h0 (by simp) hS, hs.unfrozen h1 (by simp) hS, ?_⟩
  have := hs.size; simp at this; omega

set_option maxHeartbeats 800000 in
theorem get_any {w : World} {f m : Nat} {L : List Ent} {al : List (Int × Value)} (h : Rep w f m L al) (pid fd : Int) :
    Calls Try.prog 17 #[.pointer (some ⟨f, 0, none⟩), .int .i64 pid, .int .i64 fd] w fun e w' =>
      e = .returned (.tuple #[(getV L pid fd).1, .int .i64 (getV L pid fd).2]) ∧ Same (fun _ => False) w w' := by
  have hR : Rep (w.alloc (.cells #[.int .i64 0, .int .i64 0] 23)) f m L al := h.same0 (same_alloc _)
  have bad : ∀ er : Int, er ≠ 0 → fnd L pid fd = (none, er) → getV L pid fd = (.agg #[.int .i64 0, .int .i64 0], er) →
      Calls Try.prog 17 #[.pointer (some ⟨f, 0, none⟩), .int .i64 pid, .int .i64 fd] w fun e w' =>
      e = .returned (.tuple #[(getV L pid fd).1, .int .i64 (getV L pid fd).2]) ∧ Same (fun _ => False) w w' := by
    intro er her h1 h2
    have H1 := Lib.hid h1
    have H2 := Lib.hid h2
    have her' : (er == 0) = false := by simpa using her
    clear h1 h2
    go_enter Try.func17, Try.ntmps17
    go_wp2_with (go_at_call 26; refine (find_any hR pid fd).mono ?_; rintro e w' ⟨rfl, hs⟩; rw [H1.out]; simp only [pv, Option.map_none]; obtain ⟨hc0, hc1, hz0, hz1, hlt⟩ := new2 hs (by simp))
    rw [H2.out]
    refine bodyPost_ret (v := .tuple #[.agg #[.int .i64 0, .int .i64 0], .int .i64 er]) (by simp [results, Try.results17, go_sem, hc0, hc1]) rfl ⟨rfl, ?_⟩
    exact (((same_alloc _).trans hs).mono (T := fun _ => False) (fun _ _ h => h)).setCell _ (.inl (Nat.le_refl _)) |>.setCell _ (.inl (Nat.le_refl _))
  cases hx : ent L pid fd with
  | none =>
    by_cases hp : pid < 1
    · exact bad 2 (by decide) (by simp [fnd, hp]) (by simp [getV, hp])
    · exact bad 80 (by decide) (by simp [fnd, hp, hx]) (by simp [getV, hp, hx])
  | some e =>
    obtain ⟨he, hep, _⟩ := ent_some hx
    have hp := (h.rng e he).2
    rw [hep] at hp
    have h1 : fnd L pid fd = (some e.blk, 0) := by simp [fnd, hx, Int.not_lt.2 hp]
    have h2 : getV L pid fd = (.agg #[.int .i64 e.kind, .int .i64 e.thing], 0) := by simp [getV, hx, Int.not_lt.2 hp]
    have H1 := Lib.hid h1
    have H2 := Lib.hid h2
    obtain ⟨g1, g2, _⟩ := hR.file e he
    clear h1 h2 hx
    go_enter Try.func17, Try.ntmps17
    go_wp2_with (go_at_call 26; refine (find_any hR pid fd).mono ?_; rintro e w' ⟨rfl, hs⟩; rw [H1.out]; simp only [pv, Option.map_some]; obtain ⟨hc0, hc1, hz0, hz1, hlt⟩ := new2 hs (by simp); have g1' := hs.cell g1 (by simp); have g2' := hs.cell g2 (by simp))
    rw [H2.out]
    refine bodyPost_ret (v := .tuple #[.agg #[.int .i64 e.kind, .int .i64 e.thing], .int .i64 0]) (by simp [results, Try.results17, go_sem, hc0, hc1]) rfl ⟨rfl, ?_⟩
    exact (((same_alloc _).trans hs).mono (T := fun _ => False) (fun _ _ h => h)).setCell _ (.inl (Nat.le_refl _)) |>.setCell _ (.inl (Nat.le_refl _))
end Go.Proofs.Ytcllofffbmbmlaa
