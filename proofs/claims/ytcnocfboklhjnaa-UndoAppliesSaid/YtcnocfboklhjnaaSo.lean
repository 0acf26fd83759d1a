/- undo: a table's keys in their order. Condition: the table's size. -/
import Derived.Test.YtcnocfboklhjnaaCm
import Derived.Shelf.SlSortCmp.NoneTotal
namespace Go.Proofs.Ytcnocfboklhjnaa
open Go.RowKit Go.Shelf Go.Lib Go.Sort
attribute [local go_sem] Oper.semAt_some

theorem cmpP_lt (x y : Int × Int) : ltOf cmpP x y = decide (Un.klt x y) := by
  unfold ltOf cmpP Lib.compareInt Un.klt
  by_cases h1 : x.1 < y.1
  · simp [h1]
  · by_cases h2 : y.1 < x.1
    · have h3 : ¬ x.1 = y.1 := by omega
      simp [h1, h2, h3]
    · have h3 : x.1 = y.1 := by omega
      by_cases h4 : x.2 < y.2
      · simp [h3, h4]
      · by_cases h5 : y.2 < x.2 <;> simp [h3, h4, h5]
theorem swoP : SWO (ltOf cmpP) where
  irrefl x := by rw [cmpP_lt]; simp [Un.klt_irr]
  trans x y z h1 h2 := by
    rw [cmpP_lt] at *
    simp only [decide_eq_true_eq] at *
    exact Un.klt_trans h1 h2
  ntrans x y z h1 h2 := by
    rw [cmpP_lt] at *
    simp only [decide_eq_false_iff_not] at *
    unfold Un.klt at *
    omega
def encP (p : Int × Int) : List Value := [.int .i64 p.1, .int .i64 p.2]
theorem same_sortWorld (w : World) (blk off n : Nat) (d : Array (Int × Int)) (os : Array Obj) : Same (· = blk) w (sortWorldK encP 2 w blk off n d os) := by
  unfold sortWorldK
  have h1 : Same (· = blk) w (putRowK encP 2 (Sort.ahead w n) blk off d) := by
    unfold putRowK putRow
    refine same_of_heap rfl rfl rfl (by simp [mapBlock]) (fun k hk => ?_) (fun k hk => ?_)
    · simp only [mapBlock, Array.getElem?_modify]
      rw [if_neg (fun e => hk e.symm)]; rfl
    · subst hk
      have hh2 : (mapBlock (Sort.ahead w n) k (putCells id off (flatK encP 2 d))).heap[k]? = (w.heap[k]?).map (onCells (putCells id off (flatK encP 2 d))) := by
        simp only [mapBlock, Array.getElem?_modify, if_true]; rfl
      unfold World.shape?
      rw [hh2]
      cases hh : w.heap[k]? with
      | none => rfl
      | some o => cases o <;> simp [onCells, putCells]
  have h2 : ∀ w1 : World, Same (fun _ => False) w1 (grow w1 os) := by
    intro w1
    refine ⟨rfl, rfl, rfl, by simp [grow], fun k hk _ => ?_, fun k hk => ?_⟩
    · simp only [grow]; rw [Array.getElem?_append_left hk]
    · simp only [World.shape?, grow]; rw [Array.getElem?_append_left hk]
  exact h1.trans ((h2 _).mono (fun _ _ h => h.elim))
theorem flat2_get : ∀ (ks : List (Int × Int)) (t : Nat), t < ks.length * 2 → (flat2 ks)[t]? = some ((encP ks[t / 2]!)[t % 2]!)
  | [], t, h => by simp at h
  | k :: ks, 0, _ => by simp [flat2, encP]
  | k :: ks, 1, _ => by simp [flat2, encP]
  | k :: ks, t + 2, h => by
    have ih := flat2_get ks t (by simp at h; omega)
    have e1 : (t + 2) / 2 = t / 2 + 1 := by omega
    have e2 : (t + 2) % 2 = t % 2 := by omega
    rw [e1, e2]
    simpa [flat2] using ih
theorem holds_own {w : World} {base : Nat} {v : Value} {ks : List (Int × Int)} (h : w.ownsRow base 58 2 v ks.length (flat2 ks)) : (ks = [] ∧ v = .slice none 0 0) ∨ ∃ g c, v = .slice (some ⟨g, 0, none⟩) ks.length c ∧ base ≤ g ∧ g < w.heap.size ∧ HoldsK encP 2 w g 0 ks.toArray := by
  rcases h.2 with ⟨e1, e2⟩ | ⟨g, cap, cur, rfl, hb, hh, h1, h2, h3, h4⟩
  · exact .inl ⟨List.eq_nil_of_length_eq_zero e2, e1⟩
  · refine .inr ⟨g, cap, rfl, hb, (Array.getElem?_eq_some_iff.1 hh).1, fun j hj => ?_⟩
    have hj' : j < ks.length * 2 := by simpa using hj
    have hg := flat2_get ks j hj'
    rw [get_flatK _ _ _ _ (by simpa using hj')]
    rw [← h4, List.getElem?_take] at hg
    have hlen : (flat2 ks).length = ks.length * 2 := h.1
    rw [if_pos (by omega)] at hg
    have e0 : ks.toArray[j / 2]! = ks[j / 2]! := by simp
    rw [e0]
    refine ⟨?_, ?_⟩
    · unfold World.cell?
      simp only [hh, Nat.zero_add]
      simpa using hg
    · unfold World.frozen?
      simp only [hh]
      simp
theorem sortedf_any {w : World} {m : Nat} {al : List ((Int × Int) × Value)} {l : List Un.Ad} (hm : MapIs kvp w m al) (hT : Un.TabR al l) (hl : Un.RightL l) (hlen : al.length ≤ 1000) (bx : Nat) (hb : w.cell? ⟨bx, 0, none⟩ = some (.map (some m))) :
    Calls Try.prog 52 #[.func (.func 57) #[] #[.pointer (some ⟨bx, 0, none⟩)], .func (.func 36) #[] #[]] w fun e w' => ∃ v, e = .returned v ∧ Same (fun _ => False) w w' ∧
      ((l = [] ∧ v = .slice none 0 0) ∨ ∃ g c, v = .slice (some ⟨g, 0, none⟩) l.length c ∧ w.heap.size ≤ g ∧ g < w'.heap.size ∧ ∀ i ad, l[i]? = some ad → w'.cell? ⟨g, i * 2, none⟩ = some (.int .i64 ad.id) ∧ w'.cell? ⟨g, i * 2 + 1, none⟩ = some (.int .i64 ad.num)) := by
  have hcol := collect_any w bx m al hb hm hlen
  have HT := Lib.hid hT
  have HL := Lib.hid hl
  clear hT hl hm hb
  go_enter Try.func52, Try.ntmps52
  go_wp2_with fail
  refine hcol.mono ?_
  rintro e w1 ⟨v, ks, rfl, hp, hown, hs⟩
  have hh := holds_own hown
  have HP := Lib.hid hp
  clear hown hp hcol
  rcases hh with ⟨rfl, rfl⟩ | ⟨g, c, rfl, hg1, hg2, hH⟩
  · have hl0 : l = [] := by
      have := (HT.out.keys HL.out).length_eq
      rw [← HP.out.length_eq] at this
      simpa using this.symm
    go_wp2_with (go_at_call 56; refine (AnyF.slices_SortFunc_none Try.sort56 none 0 _ _).mono ?_; rintro e w' ⟨rfl, rfl⟩)
    go_ret
    exact ⟨_, rfl, hs, .inl ⟨hl0, rfl⟩⟩
  · have eg : ∀ args w, (callFunc 36 args).run Try.prog w = .ok (.enter 36 args) w := enters_of Try.func36 (by kernel_rfl) rfl
    have hkl : ks.length ≤ 1000 := by have := HP.out.length_eq; simp at this; omega
    have hcon := AnyQ.slices_SortFunc Try.sort56 2 Try.isAgg58 Try.sizeOf58 encP (fun _ => rfl) (fun x v hv => by simp [encP] at hv; rcases hv with rfl | rfl <;> rfl) cmpP swoP 36 #[] g 0 c ks.toArray w1 eg (fun _ _ _ _ x y => compare_any _ x y) hH hg2 (by simp; omega)
    change Calls Try.prog 56 _ _ _ at hcon
    have hcon2 : Calls Try.prog 56 #[.slice (some ⟨g, 0, none⟩) ks.length c, .func (.func 36) #[] #[]] w1 fun e w' => e = .returned (.tuple #[]) ∧ Same (· = g) w1 w' ∧ l.length = ks.length ∧ ∀ i ad, l[i]? = some ad → w'.cell? ⟨g, i * 2, none⟩ = some (.int .i64 ad.id) ∧ w'.cell? ⟨g, i * 2 + 1, none⟩ = some (.int .i64 ad.num) := by
      refine hcon.mono ?_
      rintro e w' ⟨rfl, d', n, os, ⟨hz, _, hper⟩, hsd, rfl⟩
      have hz' : d'.size = ks.length := by simpa using hz
      have hperm : d'.toList.Perm ks := by
        have := hper
        simp only [List.size_toArray] at this
        rw [show d'.extract 0 ks.length = d' by rw [← hz']; simp] at this
        simpa using this
      have hpw : d'.toList.Pairwise (fun a b => ¬ Un.klt b a) := by
        rw [List.pairwise_iff_getElem]
        intro i j hi hj hij
        have := hsd i j (Nat.zero_le _) hij (by simpa [hz'] using hj)
        rw [cmpP_lt] at this
        simp only [Array.length_toList] at hi hj
        simpa [hi, hj] using this
      have hks := HT.out.sorted HL.out (hperm.trans HP.out) hpw
      have hll : l.length = ks.length := by
        have := congrArg List.length hks
        simp at this
        omega
      refine ⟨rfl, same_sortWorld .., hll, fun i ad hi => ?_⟩
      have hH' := holdsK_sortWorldK_c encP 2 w1 g 0 ks.toArray d' n os hH hg2 (by simpa using hz')
      have hil : i < d'.size := by have := (List.getElem?_eq_some_iff.1 hi).1; omega
      have hdi : d'[i]! = ad.key := by
        have : d'.toList[i]? = (l.map Un.Ad.key)[i]? := by rw [hks]
        rw [List.getElem?_map, hi] at this
        rw [getElem!_pos d' i hil]
        simpa [hil] using this
      have c0 := (HoldsK.cell hH' hil (by omega : 0 < 2)).1
      have c1 := (HoldsK.cell hH' hil (by omega : 1 < 2)).1
      rw [hdi] at c0 c1
      simp only [Nat.zero_add, Nat.add_zero] at c0 c1
      exact ⟨by simpa [encP] using c0, by simpa [encP] using c1⟩
    clear hcon hH
    go_wp2_with (go_at_call 56; refine hcon2.mono ?_; rintro e w' ⟨rfl, hs2, hll, hc⟩)
    have hs2' := hs2.size
    have HC := Lib.hid hc
    clear hc
    go_ret
    exact ⟨_, rfl, (hs.trans' (hs2.mono (T := fun b => w.heap.size ≤ b) (fun _ _ e => by omega)) (fun b hb hlt => by omega)), .inr ⟨g, c, by rw [hll]; rfl, hg1, by omega, HC.out⟩⟩
theorem sorted_any {w : World} {m : Nat} {al : List ((Int × Int) × Value)} {l : List Un.Ad} (hm : MapIs kvp w m al) (hT : Un.TabR al l) (hl : Un.RightL l) (hlen : al.length ≤ 1000) :
    Calls Try.prog 46 #[.map (some m), .func (.func 36) #[] #[]] w fun e w' => ∃ v, e = .returned v ∧ Same (fun _ => False) w w' ∧
      ((l = [] ∧ v = .slice none 0 0) ∨ ∃ g c, v = .slice (some ⟨g, 0, none⟩) l.length c ∧ w.heap.size ≤ g ∧ g < w'.heap.size ∧ ∀ i ad, l[i]? = some ad → w'.cell? ⟨g, i * 2, none⟩ = some (.int .i64 ad.id) ∧ w'.cell? ⟨g, i * 2 + 1, none⟩ = some (.int .i64 ad.num)) := by
  have hsA : Same (fun _ => False) w (w.alloc (.cells #[.map (some m)] 55)) := same_alloc _
  have h := sortedf_any (hm.same hsA (by simp)) hT hl hlen w.heap.size (by simp [go_sem])
  clear hm hT hl
  go_enter Try.func46, Try.ntmps46
  go_wp2_with (go_at_call 53; refine (keys_any _ _).mono ?_; rintro e w' ⟨rfl, rfl⟩)
  refine h.mono ?_
  rintro e w1 ⟨v, rfl, hs, hv⟩
  have HV := Lib.hid hv
  clear hv
  go_wp2
  go_ret
  refine ⟨v, rfl, hsA.trans hs, ?_⟩
  rcases HV.out with h | ⟨g, c, h1, h2, h3, h4⟩
  · exact .inl h
  · simp only [World.size_alloc] at h2
    exact .inr ⟨g, c, h1, by omega, h3, h4⟩
end Go.Proofs.Ytcnocfboklhjnaa
