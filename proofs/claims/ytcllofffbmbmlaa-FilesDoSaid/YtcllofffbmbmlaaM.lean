import Derived.Test.YtcllofffbmbmlaaL
namespace Go.Proofs.Ytcllofffbmbmlaa
open Go.RowKit Go.Shelf
attribute [local go_sem] Oper.semAt_some

theorem cnt_forkTo {L : List Ent} (pid child : Int) (i : Nat) : cnt (forkTo L pid child i) = cnt L := by
  induction i with
  | zero => rfl
  | succ i ih =>
    simp only [forkTo]
    cases hx : ent L pid i with
    | none => exact ih
    | some e =>
      have h1 := refs_pos (mem_forkTo (pid := pid) (child := child) (ent_some hx).1 i)
      simp only [cnt, ih]
      rw [if_neg (by omega)]; rfl
theorem cnt_pos {L : List Ent} {e : Ent} (he : e ∈ L) : 0 < cnt L := by
  induction L generalizing e with
  | nil => simp at he
  | cons x r ih =>
    simp only [cnt]
    by_cases h : refs r x.blk = 0
    · rw [if_pos h]; omega
    · have : ∃ y, y ∈ r := by
        cases r with
        | nil => exact absurd rfl h
        | cons y r => exact ⟨y, List.mem_cons_self⟩
      obtain ⟨y, hy⟩ := this
      have := ih hy
      omega
theorem mem_dropTo {L : List Ent} {pid : Int} {e : Ent} (he : e ∈ L) (hp : e.pid ≠ pid) (i : Nat) : e ∈ dropTo L pid i := by
  induction i with
  | zero => exact he
  | succ i ih =>
    simp only [dropTo]
    split
    · exact ih
    · exact List.mem_filter.2 ⟨ih, by simp [hp]⟩
theorem find_mem {L : List Ent} {p q : Int} (h : ∃ e ∈ L, e.pid = p ∧ (e.fd : Int) = q) : ∃ e, ent L p q = some e := by
  obtain ⟨e, he, h1⟩ := h
  cases hx : ent L p q with
  | some e => exact ⟨e, rfl⟩
  | none =>
    unfold ent at hx
    rw [List.find?_eq_none] at hx
    have := hx e he
    simp [h1] at this

theorem add_add2 (a : Addr) (n k : Nat) : (a.add n).add k = a.add (n + k) := by
  unfold Addr.add
  by_cases h1 : n = 0 <;> by_cases h2 : k = 0 <;> simp [h1, h2, Nat.add_assoc]

theorem ent_forkTo1 {L : List Ent} {pid child : Int} (hno : ∀ k : Nat, ent L child k = none) (hne : pid ≠ child) (i : Nat) (q : Int) : ent (forkTo L pid child i) pid q = ent L pid q := by
  rw [ent_forkTo hno, if_neg hne]
/-- The second loop's round, as law: what the four calls tell. -/
theorem forks_law {L : List Ent} (hno : ∀ k : Nat, ent L 2 k = none) (hk : Keyd (forkTo L 1 2 8)) {q : Nat} (hq : q < 8) (hc : cnt (dropTo (forkTo L 1 2 8) 2 q) = cnt L) :
    ∃ K T er : Int, getV (dropTo (forkTo L 1 2 8) 2 q) 1 q = (.agg #[.int .i64 K, .int .i64 T], er) ∧ getV (dropTo (forkTo L 1 2 8) 2 q) 2 q = (.agg #[.int .i64 K, .int .i64 T], er) ∧
      ∀ L8 K8 T8 g8 er8, CloseR (dropTo (forkTo L 1 2 8) 2 q) 2 q L8 K8 T8 g8 er8 → L8 = dropTo (forkTo L 1 2 8) 2 (q + 1) ∧ g8 = false ∧ er8 = er ∧ getV L8 1 q = (.agg #[.int .i64 K, .int .i64 T], er) ∧ cnt L8 = cnt L := by
  have e1 : ent (dropTo (forkTo L 1 2 8) 2 q) 1 q = ent L 1 q := by rw [ent_dropTo, if_neg (by omega), ent_forkTo hno, if_neg (by omega)]
  have e3 : ent (forkTo L 1 2 8) 2 q = (ent L 1 q).map (fun e => ⟨2, q, e.blk, e.kind, e.thing⟩) := by
    rw [ent_forkTo hno, if_pos rfl, if_pos (by omega), Int.toNat_natCast]
  have e2 : ent (dropTo (forkTo L 1 2 8) 2 q) 2 q = (ent L 1 q).map (fun e => ⟨2, q, e.blk, e.kind, e.thing⟩) := by
    rw [ent_dropTo, if_neg (by omega), e3]
  cases hx : ent L 1 q with
  | none =>
    rw [hx] at e1 e2 e3
    have g3 : dropTo (forkTo L 1 2 8) 2 (q + 1) = dropTo (forkTo L 1 2 8) 2 q := by simp only [dropTo, e3, Option.map_none]
    have g1 : getV (dropTo (forkTo L 1 2 8) 2 q) 1 q = (.agg #[.int .i64 0, .int .i64 0], 80) := by simp [getV, e1]
    refine ⟨0, 0, 80, g1, by simp [getV, e2], ?_⟩
    intro L8 K8 T8 g8 er8 h
    rw [g3]
    cases h with
    | err er h1 h2 h4 =>
      simp [fnd, e2] at h2
      exact ⟨rfl, rfl, h2.symm, g1, hc⟩
    | ok e _ h2 => rw [e2] at h2; cases h2
  | some e =>
    rw [hx] at e1 e2 e3
    have hd : dropTo (forkTo L 1 2 8) 2 (q + 1) = del (dropTo (forkTo L 1 2 8) 2 q) 2 q := by simp only [dropTo, e3, Option.map_some]
    refine ⟨e.kind, e.thing, 0, by simp [getV, e1], by simp [getV, e2], ?_⟩
    intro L8 K8 T8 g8 er8 h
    obtain ⟨rfl, rfl, rfl, rfl, rfl⟩ := h.ok_of (by decide) e2
    have hm : e ∈ del (dropTo (forkTo L 1 2 8) 2 q) 2 q := by
      have hm1 := (ent_some hx).1
      have hm2 := (ent_some hx).2.1
      refine List.mem_filter.2 ⟨mem_dropTo (mem_forkTo hm1 8) (by omega) q, by simp [hm2]⟩
    have hr := refs_pos hm
    have hcd := cnt_del (keyd_dropTo hk 2 q) e2
    have hz : ¬ refs (del (dropTo (forkTo L 1 2 8) 2 q) 2 q) e.blk = 0 := by omega
    rw [if_neg hz] at hcd
    refine ⟨hd.symm, decide_eq_false hz, rfl, ?_, by omega⟩
    have : ent (del (dropTo (forkTo L 1 2 8) 2 q) 2 q) 1 q = some e := by rw [ent_del, if_neg (by omega), e1]
    simp [getV, this]
/-- A new block of the walk's own is kept by what owns others. -/
theorem keep {w w' : World} {m n : Nat} (hs : Same (Own w m) w w') {a : Addr} {v : Value} (hc : w.cell? a = some v) (hsh : w.shape? a.block = some (23, n)) (hm : a.block ≠ m) : w'.cell? a = some v :=
  hs.cell hc (not_own hm hsh (by decide))
theorem shape_new2 {S : Nat → Prop} {w w' : World} {x y : Value} {t : TypeId} (hs : Same S (w.alloc (.cells #[x, y] t)) w') : w'.shape? w.heap.size = some (t, 2) := by
  rw [hs.shp _ (by simp), shape_alloc, if_pos rfl]; rfl

/-- The Go text's first loop: acts on what is opened; somebody's descriptors alone. -/
def Mine (p : Int) (L : List Ent) (k : Nat) : Prop := (∀ e ∈ L, e.pid = p) ∧ L.length ≤ k

set_option maxHeartbeats 3200000 in
set_option maxRecDepth 8192 in
theorem forks_walk (w : World) (a : Option Addr) (len cap : Nat) (hlen : len ≤ maxLen) (hrows : ∀ x, a = some x → ∀ i, i < len → ∃ K T : Int, w.cell? (x.add (i * 2)) = some (.int .i64 K) ∧ w.cell? (x.add (i * 2 + 1)) = some (.int .i64 T)) (hnil : a = none → len = 0) :
    Calls Try.prog 4 #[.slice a len cap] w fun e w' => e = .returned (.bool true) ∧ Same (fun _ => False) w w' := by
  unfold maxLen at hlen
  have HROWS := Lib.hid hrows
  have HNIL := Lib.hid hnil
  clear hrows hnil
  go_enter Try.func4, Try.ntmps4
  go_wp2_with fail
  refine (shown_any _).mono ?_
  rintro e w1 ⟨rfl, hs1⟩
  go_wp2_with fail
  refine (new_any _).mono ?_
  rintro e w2 ⟨f, m, rfl, hR2, hs2, hm2⟩
  have hs02 : Same (fun _ => False) w w2 := hs1.trans hs2
  have hsz2 := hs1.size
  have HR2 := Lib.hid hR2
  clear hR2
  go_wp2
  go_loopw [5] (fun v5 wr => ∃ i : Nat, i ≤ len ∧ i ≤ 8 ∧ v5 = .int .i64 i ∧ ∃ L al, Rep wr f m L al ∧ Mine 1 L i ∧ Same (Own w2 m) w2 wr) (fun v5 _ => len - (intOf v5).toNat)
  case atStart => exact ⟨0, by omega, by omega, rfl, [], [], HR2.out, ⟨by simp, by simp⟩, Same.refl _ _⟩
  case round =>
    obtain ⟨i, hi1, hi2, rfl, L, al, hRi, hM, hsi⟩ := hrel
    by_cases hik : i < len ∧ i < 8
    · obtain ⟨hlt, hlt8⟩ := hik
      cases a with
      | none => exact absurd (HNIL.out rfl) (by omega)
      | some x =>
        obtain ⟨K, T, c0, c1⟩ := HROWS.out x rfl i hlt
        have d0 := cell_own hsi (hs02.cell c0 (by simp)) (by have := World.block_lt_of_cell? _ _ c0; omega)
        have d1 := cell_own hsi (hs02.cell c1 (by simp)) (by have := World.block_lt_of_cell? _ _ c1; omega)
        have d1' : wr.cell? ⟨(x.add (i * 2)).block, (x.add (i * 2)).off + 1, none⟩ = some (.int .i64 T) := by
          have e1 : (⟨(x.add (i * 2)).block, (x.add (i * 2)).off + 1, none⟩ : Addr) = x.add (i * 2 + 1) := (rfl : _ = (x.add (i * 2)).add 1).trans (add_add2 _ _ _)
          rw [e1]; exact d1
        go_wp2_with fail
        refine (open_any hRi 1 K T (by have := cnt_le L; have := hM.2; omega)).mono ?_
        rintro e w4 ⟨L4, r, er, rfl, hO, al4, hR4, hs4⟩
        have hs5 := own_trans hsi hs4
        have hM4 : Mine 1 L4 (i + 1) := by
          cases hO with
          | ok k b _ _ _ _ _ _ _ _ => exact ⟨fun e he => (List.mem_cons.1 he).elim (fun h => by rw [h]) (fun h => hM.1 e h), by have := hM.2; simp only [List.length_cons]; omega⟩
          | _ => exact ⟨hM.1, by have := hM.2; omega⟩
        have HR4 := Lib.hid hR4
        clear hR4 hRi hO
        go_wp2
        go_round
        case rel => exact ⟨i + 1, by omega, by omega, by go_num, L4, al4, HR4.out, hM4, hs5⟩
        case measure => simp [intOf]; omega
    · have HRi := Lib.hid hRi
      have hlt : i < len → 8 ≤ i := by omega
      have hcl := hM.2
      clear hRi hik
      rcases Nat.lt_or_ge i len with hl | hl
      all_goals
        go_wp2_with fail
        refine (count_any HRi.out).mono ?_
        rintro e w4 ⟨rfl, rfl⟩
        go_wp2_with fail
        refine (fork_any HRi.out 1 2 (by omega)).mono ?_
        rintro e w4 ⟨L4, er, rfl, hF, al4, hR4, hs4⟩
        have hno2 : ∀ k : Nat, ent L 2 k = none := fun k => by
          cases hx : ent L 2 k with
          | none => rfl
          | some e =>
            obtain ⟨h1, h2, _⟩ := ent_some hx
            have := hM.1 e h1
            omega
        have hF' : L4 = forkTo L 1 2 8 ∧ er = 0 := by
          cases hF with
          | arg h => omega
          | some k _ _ _ h => exact absurd (hno2 k) h
          | ok => exact ⟨rfl, rfl⟩
        obtain ⟨rfl, rfl⟩ := hF'
        have hl4 := length_forkTo L 1 2 8
        have hs5 := own_trans hsi hs4
        go_wp2_with fail
        refine (fork_any hR4 1 2 (by omega)).mono ?_
        rintro e w5 ⟨L5, er, rfl, hF, al5, hR5, hs5'⟩
        have hs6 := own_trans hs5 hs5'
        have hF' : L5 = forkTo L 1 2 8 ∧ (er == 2) = decide (0 < cnt L) := by
          cases hL : L with
          | nil =>
            subst hL
            cases hF with
            | arg h => omega
            | some k _ _ _ h => exact absurd (by rw [show forkTo [] 1 2 8 = [] from rfl]; rfl) h
            | ok => exact ⟨rfl, rfl⟩
          | cons e0 L0 =>
            rw [← hL]
            have he0 : e0 ∈ L := by rw [hL]; exact List.mem_cons_self
            have hpos : 0 < cnt L := cnt_pos he0
            have hx : ∃ e, ent L 1 e0.fd = some e := find_mem ⟨e0, he0, hM.1 e0 he0, rfl⟩
            obtain ⟨ex, hex⟩ := hx
            have hfd := (HRi.out.rng e0 he0).1
            have h2 : ent (forkTo L 1 2 8) 2 e0.fd ≠ none := by
              rw [ent_forkTo hno2, if_pos rfl, if_pos (by omega), hex]; simp
            cases hF with
            | arg h => omega
            | some k _ _ _ h => exact ⟨rfl, by simp [hpos]⟩
            | ok _ _ h => exact absurd (h e0.fd) h2
        obtain ⟨rfl, her⟩ := hF'
        have hkey : Keyd (forkTo L 1 2 8) := hR4.key
        have HR5 := Lib.hid hR5
        have HER := Lib.hid her
        have HNO := Lib.hid hno2
        have HKEY := Lib.hid hkey
        clear hR5 hR4 hF hno2 her hs4 hs5 hs5' hkey
        go_wp2
        go_loopw [9] (fun v9 wx => ∃ i : Nat, i ≤ 8 ∧ v9 = .int .i64 i ∧ ∃ al, Rep wx f m (dropTo (forkTo L 1 2 8) 2 i) al ∧ cnt (dropTo (forkTo L 1 2 8) 2 i) = cnt L ∧ Same (Own w2 m) w2 wx) (fun v9 _ => 8 - (intOf v9).toNat)
        case atStart => exact ⟨0, by omega, rfl, al5, HR5.out, cnt_forkTo 1 2 8, hs6⟩
        case round =>
          obtain ⟨q, hq, rfl, alx, hRx, hcx, hsx⟩ := hrel
          by_cases hq8 : q < 8
          · have hdl := length_dropTo (forkTo L 1 2 8) 2 q
            obtain ⟨K, T, er, g1, g2, hcl⟩ := forks_law HNO.out HKEY.out hq8 hcx
            have G1 := Lib.hid g1
            have G2 := Lib.hid g2
            have HCL := Lib.hid hcl
            have HCX := Lib.hid hcx
            have hmlt := hRx.hm.lt
            clear g1 g2 hcl hcx
            go_wp2_with fail
            refine (get_any hRx 1 q).mono ?_
            rintro e w6 ⟨rfl, hs6'⟩
            rw [G1.out]
            simp only
            have hR6 := (hRx.same0 hs6').same0 (same_alloc (.cells #[.int .i64 K, .int .i64 T] 23))
            have hs6 := own_trans hsx (own_of (hs6'.trans (same_alloc (.cells #[.int .i64 K, .int .i64 T] 23))))
            have hmlt6 := hs6'.size
            clear hsx hRx
            go_wp2_with fail
            refine (get_any hR6 2 q).mono ?_
            rintro e w7 ⟨rfl, hs7⟩
            rw [G2.out]
            simp only
            obtain ⟨b0, b1, -, -, lb⟩ := new2 hs7 (by simp)
            have bs := shape_new2 hs7
            have hR7 := (hR6.same0 hs7).same0 (same_alloc (.cells #[.int .i64 K, .int .i64 T] 23))
            have hs7x := own_trans hs6 (own_of (hs7.trans (same_alloc (.cells #[.int .i64 K, .int .i64 T] 23))))
            clear hs6 hR6
            go_wp2_with fail
            refine (close_any hR7 2 q (by omega)).mono ?_
            rintro e w8 ⟨L8, K8, T8, g8, er8, rfl, hO, hR8, hs8⟩
            obtain ⟨rfl, rfl, rfl, g4, hc8⟩ := HCL.out _ _ _ _ _ hO
            have G4 := Lib.hid g4
            have HC8 := Lib.hid hc8
            have hs8x := own_trans hs7x hs8
            clear g4 hc8 hO
            have y0 := keep hs8 ((same_alloc (.cells #[.int .i64 K, .int .i64 T] 23)).cell b0 (by simp)) (((same_alloc (.cells #[.int .i64 K, .int .i64 T] 23)).shp _ lb).trans bs) (by simp only; omega)
            have y1 := keep hs8 ((same_alloc (.cells #[.int .i64 K, .int .i64 T] 23)).cell b1 (by simp)) (((same_alloc (.cells #[.int .i64 K, .int .i64 T] 23)).shp _ lb).trans bs) (by simp only; omega)
            obtain ⟨c0, c1, -, -, lc⟩ := new2 (w := w7) (x := .int .i64 K) (y := .int .i64 T) (t := 23) (Same.refl (fun _ => False) _) (by simp)
            have cs := shape_new2 (w := w7) (x := .int .i64 K) (y := .int .i64 T) (t := 23) (Same.refl (fun _ => False) _)
            have z0 := keep hs8 c0 cs (by simp only; omega)
            have z1 := keep hs8 c1 cs (by simp only; omega)
            have l8 := hs8.size
            clear b0 b1 bs c0 c1 cs hs8 hs7x hR7 hs7 hs6'
            go_wp2_with fail
            refine (get_any (hR8.same0 (same_alloc _)) 1 q).mono ?_
            rintro e w9 ⟨rfl, hs9⟩
            rw [G4.out]
            simp only
            have hs98 := (same_alloc (W := w8) (.cells #[.int .i64 K8, .int .i64 T8] 23)).trans hs9
            have y0' := hs98.cell y0 (by simp)
            have y1' := hs98.cell y1 (by simp)
            have z0' := hs98.cell z0 (by simp)
            have z1' := hs98.cell z1 (by simp)
            have HR9 := Lib.hid ((hR8.same0 hs98).same0 (same_alloc (.cells #[.int .i64 K, .int .i64 T] 23)))
            have hs9x := own_trans hs8x (own_of (hs98.trans (same_alloc (.cells #[.int .i64 K, .int .i64 T] 23))))
            clear y0 y1 z0 z1 hR8 hs8x l8
            have n1 : w6.heap.size < w9.heap.size := World.block_lt_of_cell? _ _ y0'
            have n2 : w7.heap.size < w9.heap.size := World.block_lt_of_cell? _ _ z0'
            go_wp2
            exact ⟨⟨q + 1, by omega, by go_num, alx, HR9.out, HC8.out, hs9x⟩, by simp [intOf]; omega⟩
          · obtain rfl : q = 8 := by omega
            go_wp2_with fail
            refine (count_any hRx).mono ?_
            rintro e w4 ⟨rfl, rfl⟩
            have hcc : (cnt (dropTo (forkTo L 1 2 8) 2 8) : Int) = (cnt L : Int) := by omega
            have HH := HER.out
            simp only [hcc]
            go_wp2
            go_ret
            exact ⟨rfl, hs02.trans' hsx (fun b hb hbw => by have := hb.1; omega)⟩
end Go.Proofs.Ytcllofffbmbmlaa
