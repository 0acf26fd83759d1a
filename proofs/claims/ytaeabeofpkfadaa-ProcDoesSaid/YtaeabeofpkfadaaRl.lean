/- proc: the reference's Wait. Conditions: its form. -/
import Derived.Test.YtaeabeofpkfadaaRj
namespace Go.Proofs.Ytaeabeofpkfadaa
open Go.RowKit Go.Shelf
attribute [local go_sem] Oper.semAt_some

theorem filter_cut {L : List Pr} {last : Int} (h : Inv L last) {i : Nat} {z : Pr} (hz : L[i]? = some z) : L.filter (fun q => q.pid ≠ z.pid) = L.take i ++ L.drop (i + 1) := by
  have hi := (List.getElem?_eq_some_iff.1 hz).1
  have e : L = L.take i ++ z :: L.drop (i + 1) := by
    have hd : L.drop i = z :: L.drop (i + 1) := by
      rw [List.drop_eq_getElem_cons hi]
      congr 1
      exact (List.getElem?_eq_some_iff.1 hz).2
    rw [← hd, List.take_append_drop]
  have ha := h.asc
  rw [e, List.pairwise_append, List.pairwise_cons] at ha
  have h1 : (L.take i).filter (fun q => q.pid ≠ z.pid) = L.take i := by
    rw [List.filter_eq_self]
    intro x hx
    have := ha.2.2 x hx z (List.mem_cons_self ..)
    simp; omega
  have h2 : (L.drop (i + 1)).filter (fun q => q.pid ≠ z.pid) = L.drop (i + 1) := by
    rw [List.filter_eq_self]
    intro x hx
    have := ha.2.1.1 x hx
    simp; omega
  conv => lhs; rw [e]
  rw [List.filter_append, List.filter_cons, if_neg (by simp), h1, h2]
theorem flat_take (L : List Pr) (i : Nat) (j : Nat) (u : Value) (h : (flat (L.take i))[j]? = some u) : (flat L)[j]? = some u := by
  have : flat L = flat (L.take i) ++ flat (L.drop i) := by
    unfold flat
    rw [← List.flatMap_append, List.take_append_drop]
  rw [this, List.getElem?_append_left (List.getElem?_eq_some_iff.1 h).1]
  exact h
theorem flat_drop (L : List Pr) (i : Nat) (hi : i ≤ L.length) (j : Nat) (u : Value) (h : (flat (L.drop i))[j]? = some u) : (flat L)[i * 8 + j]? = some u := by
  have : flat L = flat (L.take i) ++ flat (L.drop i) := by
    unfold flat
    rw [← List.flatMap_append, List.take_append_drop]
  have hl : (flat (L.take i)).length = i * 8 := by rw [flat_len, List.length_take]; congr 1; omega
  rw [this, List.getElem?_append_right (by omega), hl, show i * 8 + j - i * 8 = j by omega]
  exact h
theorem flat_one (L : List Pr) : ∀ u ∈ flat L, u.oneCell' = true := by
  intro u hu
  obtain ⟨p, _, hp⟩ := List.mem_flatMap.1 hu
  simp only [Pr.vals, List.mem_cons, List.not_mem_nil, or_false] at hp
  rcases hp with rfl | rfl | rfl | rfl | rfl | rfl | rfl | rfl <;> rfl
theorem add_lit (g k j : Nat) : (⟨g, k, none⟩ : Addr).add j = (⟨g, 0, none⟩ : Addr).add (k + j) := by
  unfold Addr.add
  by_cases h1 : j = 0 <;> by_cases h2 : k = 0 <;> simp [h1, h2]
theorem own_row_any2 {w : World} {base : Nat} {e : TypeId} {size : Nat} {v : Value} {n : Nat} {xs : List Value} (h : w.ownsRow base e size v n xs) : ∃ ao cap, v = .slice ao n cap ∧ (0 < n → ∃ g, ao = some ⟨g, 0, none⟩) := by
  rcases h.2 with ⟨rfl, h0⟩ | ⟨g, cap, cur, rfl, _⟩
  · subst h0; exact ⟨none, 0, rfl, fun h => by omega⟩
  · exact ⟨_, cap, rfl, fun _ => ⟨g, rfl⟩⟩
theorem wt_bad {L : List Pr} {pid er : Int} (h : rn L pid = (none, er)) : wtN L pid = 0 ∧ wtS L pid = 0 ∧ wtE L pid = er ∧ wtL L pid = L := by
  unfold wtN wtS wtE wtL wtZ; rw [h]; exact ⟨rfl, rfl, rfl, rfl⟩
theorem wt_no {L : List Pr} {pid er : Int} {p : Pr} (h : rn L pid = (some p, er)) (hz : L.find? (zom pid) = none) : wtN L pid = 0 ∧ wtS L pid = 0 ∧ wtE L pid = wr L pid L.length ∧ wtL L pid = L := by
  unfold wtN wtS wtE wtL wtZ; rw [h]; simp only [hz]; exact ⟨trivial, trivial, trivial, trivial⟩
theorem wt_yes {L : List Pr} {pid er : Int} {p z : Pr} (h : rn L pid = (some p, er)) (hz : L.find? (zom pid) = some z) : wtN L pid = z.pid ∧ wtS L pid = z.stat ∧ wtE L pid = 0 ∧ wtL L pid = L.filter (fun q => q.pid ≠ z.pid) := by
  unfold wtN wtS wtE wtL wtZ; rw [h]; simp only [hz]; exact ⟨trivial, trivial, trivial, trivial⟩
set_option maxHeartbeats 3200000 in
set_option maxRecDepth 16384 in
theorem rwait_any {s : Nat} {w : World} {r g cap : Nat} {L : List Pr} {last : Int} (h : RAt s w r g cap L last) (hi : Inv L last) (pid : Int) :
    Calls Try.prog 34 #[.pointer (some ⟨r, 0, none⟩), .int .i64 pid] w fun e w' => e = .returned (.tuple #[.int .i64 (wtN L pid), .int .i64 (wtS L pid), .int .i64 (wtE L pid)]) ∧ RQ s w r g (wtL L pid) last w' := by
  have ha := at_any h pid
  have hrq := h.rq (Same.refl _ w)
  rcases at_cases L pid with ⟨h1, h2⟩ | ⟨k, p, h1, hp, h2⟩
  · rw [h2] at ha
    obtain ⟨t1, t2, t3, t4⟩ := wt_bad (L := L) (pid := pid) (er := 60) (by unfold rn; rw [h1])
    rw [t1, t2, t3, t4]
    clear h h1 h2
    go_enter Try.func34, Try.ntmps34
    go_wp2_with fail
    refine ha.mono ?_
    rintro e w1 ⟨rfl, rfl⟩
    go_wp2
    refine bodyPost_ret (v := .tuple #[.int .i64 0, .int .i64 0, .int .i64 60]) (by simp [results, Try.results34, go_sem]) rfl ⟨rfl, hrq⟩
  · rw [h2] at ha
    have hk0 : ¬ (k : Int) < 0 := by omega
    have hl := h.len
    have hkl := (List.getElem?_eq_some_iff.1 hp).1
    have hc0 := h.c0
    have hlt := h.lt
    obtain ⟨c2, z2⟩ := h.at_ hp (j := 2) rfl
    obtain ⟨n, hn⟩ : ∃ n, n = L.length := ⟨_, rfl⟩
    have H := Lib.hid h
    have HP := Lib.hid hp
    have HN := Lib.hid hn
    have hgr := h.gr
    have hrg : ¬ r = g := fun e => hgr e.symm
    rw [← hn] at hc0 hkl hl
    have hkn : (k : Int) < n := by omega
    by_cases e1 : p.st = 1
    · rw [e1] at c2
      have HRN := Lib.hid (show rn L pid = (some p, 0) by unfold rn; rw [h1]; simp [e1])
      clear h h1 h2 hp hn hrq
      go_enter Try.func34, Try.ntmps34
      go_wp2_with fail
      refine ha.mono ?_
      rintro e w1 ⟨rfl, rfl⟩
      clear ha
      go_wp2
      go_loopw [8, 9] (fun v8 v9 wx => ∃ (i : Nat) (W : World), W = wx ∧ i ≤ n ∧ v9 = .int .i64 i ∧ v8 = .int .i64 (wr L pid i) ∧ (L.take i).all (fun q => !zom pid q) = true ∧ Same (fun _ => False) w1 W) (fun _ v9 _ => n - (intOf v9).toNat)
      case atStart => exact ⟨0, _, rfl, by omega, rfl, rfl, by simp, Same.refl _ _⟩
      case round =>
        obtain ⟨i, W, hW, hin, rfl, rfl, hall, hsW⟩ := hrel
        subst hW
        have hR := H.out.same0 hsW
        have d0 := hR.c0
        rw [← HN.out] at d0
        by_cases hil : i < n
        · have hii : (i : Int) < n := by omega
          obtain ⟨q, hq⟩ : ∃ q, L[i]? = some q := ⟨_, List.getElem?_eq_getElem (by have := HN.out; omega)⟩
          have hcell := fun j v hv => (hR.at_ hq (j := j) (v := v) hv).1
          have m0 : W.cell? ⟨g, i * 8, none⟩ = some (.int .i64 q.pid) := hcell 0 _ rfl
          have m1 := hcell 1 _ rfl
          have m2 := hcell 2 _ rfl
          have m3 := hcell 3 _ rfl
          have m4 := hcell 4 _ rfl
          have m5 := hcell 5 _ rfl
          have m6 := hcell 6 _ rfl
          have m7 := hcell 7 _ rfl
          have HR := Lib.hid hR
          have HQ := Lib.hid hq
          have HSW := Lib.hid hsW
          have HALL := Lib.hid hall
          have HWR := Lib.hid (wr_succ (pid := pid) hq)
          clear hR hq hsW hall hcell
          by_cases ep : q.par = pid
          · by_cases es : q.st = 3
            · have hfind := zom_find HQ.out HALL.out (by simp [zom, ep, es])
              rw [ep] at m1
              rw [es] at m2
              have HT := Lib.hid (wt_yes HRN.out hfind)
              have hrW := HR.out.lt.1
              have hgW := HR.out.lt.2.1
              have hsg := HR.out.lt.2.2
              obtain ⟨i0, hi0, hq0, hq1, hq2⟩ := info_parts Try.info34
              have sA : Same (fun _ => False) W (W.alloc (.cells #[.int .i64 q.pid, .int .i64 pid, .int .i64 3, .int .i64 q.uid, .int .i64 q.gid, .string q.ch, .int .i64 q.stat, .bool q.kil] 34)) := same_alloc _
              have hRA := HR.out.same0 sA
              have hc1 : ∀ j u, (flat (L.take i))[j]? = some u → (W.alloc (.cells #[.int .i64 q.pid, .int .i64 pid, .int .i64 3, .int .i64 q.uid, .int .i64 q.gid, .string q.ch, .int .i64 q.stat, .bool q.kil] 34)).cell? ((⟨g, 0, none⟩ : Addr).add j) = some u := fun j u hu => hRA.row.cells (g := g) rfl j u (flat_take L i j u hu)
              have hlen1 : (flat (L.take i)).length = i * 8 := by rw [flat_len, List.length_take]; congr 1; have := HN.out; omega
              have hone1 := flat_one (L.take i)
              have b1 : 0 + i ≤ maxLen := by unfold maxLen; omega
              have b2 : (0 + i) * 72 ≤ 140737488355328 := by omega
              have b3 : s ≤ (W.alloc (.cells #[.int .i64 q.pid, .int .i64 pid, .int .i64 3, .int .i64 q.uid, .int .i64 q.gid, .string q.ch, .int .i64 q.stat, .bool q.kil] 34)).heap.size := by simp; omega
              have hcapn : n ≤ cap := by
                rcases HR.out.row.2 with ⟨h, _⟩ | ⟨g2, cap2, cur, h, _, _, h5, _⟩
                · cases h
                · cases h; rw [HN.out]; exact h5
              have T1 := Lib.hid (And.intro hc1 (And.intro hlen1 (And.intro hone1 (And.intro b1 (And.intro b2 b3)))))
              have HRA := Lib.hid hRA
              have SA := Lib.hid sA
              clear hc1 hlen1 hone1 b1 b2 b3 hRA sA
              have hn1 : (i : Int) + 1 ≤ n := by omega
              have hcut := filter_cut hi HQ.out
              have hne0 : L.take i ++ L.drop (i + 1) ≠ [] := by
                rw [← hcut]
                obtain ⟨o, ho, o1, o2, o3⟩ := hi.one
                refine List.ne_nil_of_mem (List.mem_filter.2 ⟨ho, ?_⟩)
                simp only [ne_eq, decide_not, Bool.not_eq_true', decide_eq_false_iff_not]
                intro e
                rw [hi.uniq ho (List.mem_of_getElem? HQ.out) e] at o3
                exact o3 es
              have hlen2 : 0 < i + (n - (i + 1)) := by
                have := List.length_pos_iff.2 hne0
                rw [List.length_append, List.length_take, List.length_drop, ← HN.out] at this
                omega
              have HCUT := Lib.hid hcut
              clear hcut hne0
              by_cases hcz : cap = i + 1
              · have hni : n = i + 1 := by omega
                have hdz : L.drop (i + 1) = [] := by rw [List.drop_eq_nil_iff]; have := HN.out; omega
                subst hcz
                go_wp2_with (first
                  | (refine wpList_append_same rfl _ _ 48 rfl s 34 i0 Pr.zero 8 72 Try.underlying48 hi0 hq0 hq1 hq2 rfl (by decide) (.slice none 0 0) 0 [] rfl (World.ownsRow_nil _ _ _ _) ⟨g, 0, none⟩ i _ (flat (L.take i)) rfl T1.out.2.1 T1.out.1 T1.out.2.2.1 T1.out.2.2.2.1 T1.out.2.2.2.2.1 T1.out.2.2.2.2.2 ?_
                     intro v1 w5 hown5 hsame5 hblk5
                     have hs5 : Same (fun _ => False) (W.alloc (.cells #[.int .i64 q.pid, .int .i64 pid, .int .i64 3, .int .i64 q.uid, .int .i64 q.gid, .string q.ch, .int .i64 q.stat, .bool q.kil] 34)) w5 := hsame5.mono (fun _ _ h => by simp [Value.ownBlock] at h)
                     have r5 := HRA.out.same0 hs5
                     have d5 := r5.c0
                     rw [← HN.out] at d5
                     have z5 := r5.z0
                     have hv1 : ∀ x, v1.ownBlock = some x → W.heap.size + 1 ≤ x := fun x hx => by
                       rcases hblk5 x hx with h | h
                       · simp [Value.ownBlock] at h
                       · simpa using h
                     have a0 := hs5.cell (a := ⟨W.heap.size, 0, none⟩) (v := .int .i64 q.pid) (by simp) (fun h => h)
                     have a6 := hs5.cell (a := ⟨W.heap.size, 6, none⟩) (v := .int .i64 q.stat) (by simp) (fun h => h)
                     have R5 := Lib.hid (And.intro r5 (And.intro hs5 (And.intro hown5 (And.intro hv1 (And.intro a0 a6)))))
                     clear r5 hs5 hsame5 hown5 hblk5 hv1 a0 a6)
                  | (refine wpList_append_same rfl _ _ 48 rfl s 34 i0 Pr.zero 8 72 Try.underlying48 hi0 hq0 hq1 hq2 rfl (by decide) v1 (0 + i) ([] ++ flat (L.take i)) rfl R5.out.2.2.1 _ _ _ (flat []) rfl rfl (by intro j u hu; simp [flat] at hu) (flat_one _) (by unfold maxLen; omega) (by omega) (Nat.le_trans T1.out.2.2.2.2.2 R5.out.2.1.size) ?_
                     intro v2 w6 hown6 hsame6 hblk6
                     obtain ⟨NN, hNN⟩ : ∃ NN, NN = 0 + i + 0 := ⟨_, rfl⟩
                     rw [← hNN] at hown6
                     have hN0 : 0 < NN := by omega
                     have HNN := Lib.hid hNN
                     clear hNN
                     obtain ⟨ao, cap2, rfl, hao⟩ := own_row_any2 hown6
                     obtain ⟨g2, rfl⟩ := hao hN0
                     have x0 := hsame6.cell d5 (fun e => by have h9 : W.heap.size + 1 ≤ r := R5.out.2.2.2.1 _ e; omega)
                     have x9 := hsame6.unfrozen d5 z5 (fun e => by have h9 : W.heap.size + 1 ≤ r := R5.out.2.2.2.1 _ e; omega)
                     have b0 := hsame6.cell R5.out.2.2.2.2.1 (fun e => by have h9 : W.heap.size + 1 ≤ W.heap.size := R5.out.2.2.2.1 _ e; omega)
                     have b6 := hsame6.cell R5.out.2.2.2.2.2 (fun e => by have h9 : W.heap.size + 1 ≤ W.heap.size := R5.out.2.2.2.1 _ e; omega)
                     have HH := Lib.hid (And.intro hown6 (And.intro hsame6 (And.intro hblk6 (And.intro b0 b6))))
                     clear hown6 hsame6 hblk6 b0 b6))
                have y0 : (w6.setCell ⟨r, 0, none⟩ (.slice (some ⟨g2, 0, none⟩) NN cap2)).cell? ⟨W.heap.size, 0, none⟩ = some (.int .i64 q.pid) := by
                  rw [World.cell?_setCell_other _ _ _ _ (by intro e; cases e; omega)]; exact HH.out.2.2.2.1
                have y6 : (w6.setCell ⟨r, 0, none⟩ (.slice (some ⟨g2, 0, none⟩) NN cap2)).cell? ⟨W.heap.size, 6, none⟩ = some (.int .i64 q.stat) := by
                  rw [World.cell?_setCell_other _ _ _ _ (by intro e; cases e)]; exact HH.out.2.2.2.2
                obtain ⟨hown6, hsame6, hblk6, -, -⟩ := HH.out
                have sF : Same (fun k => k = r) w6 (w6.setCell ⟨r, 0, none⟩ (.slice (some ⟨g2, 0, none⟩) NN cap2)) := (Same.refl (fun k => k = r) _).setCell _ (.inr rfl)
                have hv1 := R5.out.2.2.2.1
                have hs5 := R5.out.2.1
                have hr5 := R5.out.1
                have hg2 : W.heap.size + 1 ≤ g2 := by
                  rcases hblk6 g2 rfl with h | h
                  · exact hv1 g2 h
                  · have := hs5.size; simp at this; omega
                have hfl : flat (L.filter (fun x => x.pid ≠ q.pid)) = [] ++ flat (L.take i) ++ flat [] := by
                  rw [HCUT.out]
                  unfold flat
                  rw [List.flatMap_append]
                  rw [hdz]; simp
                have hfn : (L.filter (fun x => x.pid ≠ q.pid)).length = NN := by
                  rw [HNN.out]
                  rw [HCUT.out, List.length_append, List.length_take, List.length_drop, ← HN.out]; omega
                have hS6 : Same (fun _ => False) W w6 := (((SA.out).trans hs5).trans' hsame6 (fun k e hk => by have := hv1 k e; omega))
                have hR : RAt s (w6.setCell ⟨r, 0, none⟩ (.slice (some ⟨g2, 0, none⟩) NN cap2)) r g2 cap2 (L.filter (fun x => x.pid ≠ q.pid)) last := by
                  have n1 : ¬ v1.ownBlock = some r := fun e => by have := hv1 r e; omega
                  refine ⟨?_, by simpa using x9, ?_, ?_, ?_, by omega, Nat.le_trans (List.length_filter_le _ _) (by rw [← HN.out]; omega)⟩
                  · rw [hfn]; exact World.cell?_setCell_same _ _ _ x0
                  · rw [World.cell?_setCell_other _ _ _ _ (by intro e; cases e)]
                    exact hsame6.cell hr5.c1 n1
                  · have := hsame6.unfrozen hr5.c1 hr5.z1 n1
                    simpa using this
                  · rw [hfn, hfl]
                    exact ownsRow_same hown6 sF (fun gx hgx e => by
                      have h1 : g2 = gx := by simpa [Value.ownBlock] using hgx
                      have h2 : gx = r := e
                      omega)
                have hS : Same (fun k => k = r ∨ k = g) w1 (w6.setCell ⟨r, 0, none⟩ (.slice (some ⟨g2, 0, none⟩) NN cap2)) :=
                  ((HSW.out.trans hS6).mono (fun _ _ h => h.elim)).trans (sF.mono (fun _ _ e => .inl e))
                have hww := HSW.out.size
                have FIN := Lib.hid (And.intro hR hS)
                clear hown6 hsame6 hblk6 sF hs5 hr5 hfl hfn hS6 hR hS x0 x9 d5 z5
                go_quiet (fail)
                rename_i nq
                go_wp2
                refine bodyPost_ret (v := .tuple #[.int .i64 q.pid, .int .i64 q.stat, .int .i64 0]) (by simp [results, Try.results34, go_sem]) rfl ⟨by rw [HT.out.1, HT.out.2.1, HT.out.2.2.1], ?_⟩
                rw [HT.out.2.2.2]
                exact ⟨g2, cap2, FIN.out.1.same0 ((Same.refl _ _).drewN nq), .inr (by omega), FIN.out.2.drewN nq⟩
              · have hic : (i : Int) ≤ cap := by omega
                have hnc : (n : Int) ≤ cap := by omega
                have hcz2 : ¬ cap - (i + 1) = 0 := by omega
                have hcz3 : ¬ (cap : Int) = (i : Int) + 1 := by omega
                have T2 := Lib.hid (show (flat (L.drop (i + 1))).length = (n - (i + 1)) * 8 by rw [flat_len, List.length_drop, HN.out])
                go_wp2_with (first
                  | (refine wpList_append_same rfl _ _ 48 rfl s 34 i0 Pr.zero 8 72 Try.underlying48 hi0 hq0 hq1 hq2 rfl (by decide) (.slice none 0 0) 0 [] rfl (World.ownsRow_nil _ _ _ _) ⟨g, 0, none⟩ i _ (flat (L.take i)) rfl T1.out.2.1 T1.out.1 T1.out.2.2.1 T1.out.2.2.2.1 T1.out.2.2.2.2.1 T1.out.2.2.2.2.2 ?_
                     intro v1 w5 hown5 hsame5 hblk5
                     have hs5 : Same (fun _ => False) (W.alloc (.cells #[.int .i64 q.pid, .int .i64 pid, .int .i64 3, .int .i64 q.uid, .int .i64 q.gid, .string q.ch, .int .i64 q.stat, .bool q.kil] 34)) w5 := hsame5.mono (fun _ _ h => by simp [Value.ownBlock] at h)
                     have r5 := HRA.out.same0 hs5
                     have d5 := r5.c0
                     rw [← HN.out] at d5
                     have z5 := r5.z0
                     have hv1 : ∀ x, v1.ownBlock = some x → W.heap.size + 1 ≤ x := fun x hx => by
                       rcases hblk5 x hx with h | h
                       · simp [Value.ownBlock] at h
                       · simpa using h
                     have a0 := hs5.cell (a := ⟨W.heap.size, 0, none⟩) (v := .int .i64 q.pid) (by simp) (fun h => h)
                     have a6 := hs5.cell (a := ⟨W.heap.size, 6, none⟩) (v := .int .i64 q.stat) (by simp) (fun h => h)
                     have R5 := Lib.hid (And.intro r5 (And.intro hs5 (And.intro hown5 (And.intro hv1 (And.intro a0 a6)))))
                     clear r5 hs5 hsame5 hown5 hblk5 hv1 a0 a6)
                  | (refine wpList_append_same rfl _ _ 48 rfl s 34 i0 Pr.zero 8 72 Try.underlying48 hi0 hq0 hq1 hq2 rfl (by decide) v1 (0 + i) ([] ++ flat (L.take i)) rfl R5.out.2.2.1 ⟨g, (i + 1) * 8, none⟩ (n - (i + 1)) _ (flat (L.drop (i + 1))) rfl T2.out (fun j u hu => by rw [add_lit]; exact R5.out.1.row.cells (g := g) rfl _ u (flat_drop L (i + 1) (by have := HN.out; omega) j u hu)) (flat_one _) (by unfold maxLen; omega) (by omega) (Nat.le_trans T1.out.2.2.2.2.2 R5.out.2.1.size) ?_
                     intro v2 w6 hown6 hsame6 hblk6
                     obtain ⟨NN, hNN⟩ : ∃ NN, NN = 0 + i + (n - (i + 1)) := ⟨_, rfl⟩
                     rw [← hNN] at hown6
                     have hN0 : 0 < NN := by omega
                     have HNN := Lib.hid hNN
                     clear hNN
                     obtain ⟨ao, cap2, rfl, hao⟩ := own_row_any2 hown6
                     obtain ⟨g2, rfl⟩ := hao hN0
                     have x0 := hsame6.cell d5 (fun e => by have h9 : W.heap.size + 1 ≤ r := R5.out.2.2.2.1 _ e; omega)
                     have x9 := hsame6.unfrozen d5 z5 (fun e => by have h9 : W.heap.size + 1 ≤ r := R5.out.2.2.2.1 _ e; omega)
                     have b0 := hsame6.cell R5.out.2.2.2.2.1 (fun e => by have h9 : W.heap.size + 1 ≤ W.heap.size := R5.out.2.2.2.1 _ e; omega)
                     have b6 := hsame6.cell R5.out.2.2.2.2.2 (fun e => by have h9 : W.heap.size + 1 ≤ W.heap.size := R5.out.2.2.2.1 _ e; omega)
                     have HH := Lib.hid (And.intro hown6 (And.intro hsame6 (And.intro hblk6 (And.intro b0 b6))))
                     clear hown6 hsame6 hblk6 b0 b6))
                have y0 : (w6.setCell ⟨r, 0, none⟩ (.slice (some ⟨g2, 0, none⟩) NN cap2)).cell? ⟨W.heap.size, 0, none⟩ = some (.int .i64 q.pid) := by
                  rw [World.cell?_setCell_other _ _ _ _ (by intro e; cases e; omega)]; exact HH.out.2.2.2.1
                have y6 : (w6.setCell ⟨r, 0, none⟩ (.slice (some ⟨g2, 0, none⟩) NN cap2)).cell? ⟨W.heap.size, 6, none⟩ = some (.int .i64 q.stat) := by
                  rw [World.cell?_setCell_other _ _ _ _ (by intro e; cases e)]; exact HH.out.2.2.2.2
                obtain ⟨hown6, hsame6, hblk6, -, -⟩ := HH.out
                have sF : Same (fun k => k = r) w6 (w6.setCell ⟨r, 0, none⟩ (.slice (some ⟨g2, 0, none⟩) NN cap2)) := (Same.refl (fun k => k = r) _).setCell _ (.inr rfl)
                have hv1 := R5.out.2.2.2.1
                have hs5 := R5.out.2.1
                have hr5 := R5.out.1
                have hg2 : W.heap.size + 1 ≤ g2 := by
                  rcases hblk6 g2 rfl with h | h
                  · exact hv1 g2 h
                  · have := hs5.size; simp at this; omega
                have hfl : flat (L.filter (fun x => x.pid ≠ q.pid)) = [] ++ flat (L.take i) ++ flat (L.drop (i + 1)) := by
                  rw [HCUT.out]
                  unfold flat
                  rw [List.flatMap_append]
                  rfl
                have hfn : (L.filter (fun x => x.pid ≠ q.pid)).length = NN := by
                  rw [HNN.out]
                  rw [HCUT.out, List.length_append, List.length_take, List.length_drop, ← HN.out]; omega
                have hS6 : Same (fun _ => False) W w6 := (((SA.out).trans hs5).trans' hsame6 (fun k e hk => by have := hv1 k e; omega))
                have hR : RAt s (w6.setCell ⟨r, 0, none⟩ (.slice (some ⟨g2, 0, none⟩) NN cap2)) r g2 cap2 (L.filter (fun x => x.pid ≠ q.pid)) last := by
                  have n1 : ¬ v1.ownBlock = some r := fun e => by have := hv1 r e; omega
                  refine ⟨?_, by simpa using x9, ?_, ?_, ?_, by omega, Nat.le_trans (List.length_filter_le _ _) (by rw [← HN.out]; omega)⟩
                  · rw [hfn]; exact World.cell?_setCell_same _ _ _ x0
                  · rw [World.cell?_setCell_other _ _ _ _ (by intro e; cases e)]
                    exact hsame6.cell hr5.c1 n1
                  · have := hsame6.unfrozen hr5.c1 hr5.z1 n1
                    simpa using this
                  · rw [hfn, hfl]
                    exact ownsRow_same hown6 sF (fun gx hgx e => by
                      have h1 : g2 = gx := by simpa [Value.ownBlock] using hgx
                      have h2 : gx = r := e
                      omega)
                have hS : Same (fun k => k = r ∨ k = g) w1 (w6.setCell ⟨r, 0, none⟩ (.slice (some ⟨g2, 0, none⟩) NN cap2)) :=
                  ((HSW.out.trans hS6).mono (fun _ _ h => h.elim)).trans (sF.mono (fun _ _ e => .inl e))
                have hww := HSW.out.size
                have FIN := Lib.hid (And.intro hR hS)
                clear hown6 hsame6 hblk6 sF hs5 hr5 hfl hfn hS6 hR hS x0 x9 d5 z5
                go_quiet (fail)
                rename_i nq
                go_wp2
                refine bodyPost_ret (v := .tuple #[.int .i64 q.pid, .int .i64 q.stat, .int .i64 0]) (by simp [results, Try.results34, go_sem]) rfl ⟨by rw [HT.out.1, HT.out.2.1, HT.out.2.2.1], ?_⟩
                rw [HT.out.2.2.2]
                exact ⟨g2, cap2, FIN.out.1.same0 ((Same.refl _ _).drewN nq), .inr (by omega), FIN.out.2.drewN nq⟩
            · have es' : (q.st == 3) = false := by simpa using es
              rw [ep] at m1
              go_wp2
              go_round
              case rel =>
                refine ⟨i + 1, _, rfl, by omega, by go_num, by rw [HWR.out, if_pos ep], zom_succ HQ.out HALL.out (by simp [zom, es]), HSW.out.alloc _⟩
              case measure => simp [intOf]; omega
          · have ep' : (q.par == pid) = false := by simpa using ep
            go_wp2
            go_round
            case rel =>
              refine ⟨i + 1, _, rfl, by omega, by go_num, by rw [HWR.out, if_neg ep], zom_succ HQ.out HALL.out (by simp [zom, ep]), HSW.out.alloc _⟩
            case measure => simp [intOf]; omega
        · obtain rfl : i = n := by omega
          have hnone : L.find? (zom pid) = none := by
            rw [show L.take i = L by rw [HN.out, List.take_length]] at hall
            rw [List.find?_eq_none]
            intro x hx hz
            have := List.all_eq_true.1 hall x hx
            rw [hz] at this
            cases this
          have HT := Lib.hid (wt_no HRN.out hnone)
          have HRQ := Lib.hid (H.out.rq hsW)
          clear hR hsW hall hnone
          go_wp2
          refine bodyPost_ret (v := .tuple #[.int .i64 0, .int .i64 0, .int .i64 (wr L pid i)]) (by simp [results, Try.results34, go_sem]) rfl ⟨by rw [HT.out.1, HT.out.2.1, HT.out.2.2.1, ← HN.out], by rw [HT.out.2.2.2]; exact HRQ.out⟩
    · have hx1 : (p.st == 1) = false := by simpa using e1
      obtain ⟨t1, t2, t3, t4⟩ := wt_bad (L := L) (pid := pid) (er := 2) (by unfold rn; rw [h1]; simp [e1])
      rw [t1, t2, t3, t4]
      clear h h1 h2 hp hn
      go_enter Try.func34, Try.ntmps34
      go_wp2_with fail
      refine ha.mono ?_
      rintro e w1 ⟨rfl, rfl⟩
      go_wp2
      refine bodyPost_ret (v := .tuple #[.int .i64 0, .int .i64 0, .int .i64 2]) (by simp [results, Try.results34, go_sem]) rfl ⟨rfl, hrq⟩
end Go.Proofs.Ytaeabeofpkfadaa
