/- proc: Exit. Conditions: the table's form, numbers' bounds. -/
import Derived.Test.YtaeabeofpkfadaaH
namespace Go.Proofs.Ytaeabeofpkfadaa
open Go.RowKit Go.Shelf
attribute [local go_sem] Oper.semAt_some

theorem TabAt.mapped {w W : World} {t m : Nat} {L : List Pr} {last last' : Int} (h : TabAt w t m L last) (f : Pr → Pr) (hf : ∀ q, (f q).pid = q.pid ∧ (f q).b = q.b) (h0 : W.cell? ⟨t, 0, none⟩ = some (.map (some m))) (h1 : W.cell? ⟨t, 1, none⟩ = some (.int .i64 last')) (hz : W.frozen? ⟨t, 1, none⟩ = false)
    (hm : MapIs kvi W m (alOf L)) (hp : ∀ q ∈ L, PrAt W (f q)) : TabAt W t m (L.map f) last' := by
  refine ⟨h0, h1, hz, ?_, ?_, ?_, ?_, ?_, h.tm⟩
  · have : alOf (L.map f) = alOf L := by
      unfold alOf
      rw [List.map_map]
      exact List.map_congr_left fun q _ => by simp only [Function.comp]; rw [(hf q).1, (hf q).2]
    rw [this]; exact hm
  · intro q hq
    obtain ⟨x, hx, rfl⟩ := List.mem_map.1 hq
    exact hp x hx
  · rw [List.pairwise_map]; exact h.asc.imp (fun {a b} h => by rw [(hf a).1, (hf b).1]; exact h)
  · rw [List.pairwise_map]; exact h.bi.imp (fun {a b} h => by rw [(hf a).2, (hf b).2]; exact h)
  · intro q hq
    obtain ⟨x, hx, rfl⟩ := List.mem_map.1 hq
    rw [(hf x).2]; exact h.nb x hx
/-- A process's child becomes the first one's. -/
def adopt (pid : Int) (q : Pr) : Pr := if q.par = pid then { q with par := 1 } else q
theorem adopt_id (pid : Int) (q : Pr) : (adopt pid q).pid = q.pid ∧ (adopt pid q).b = q.b := by unfold adopt; split <;> exact ⟨rfl, rfl⟩
/-- What a round of a change of all processes keeps: the first i are changed. -/
structure Mid (W : World) (t m : Nat) (L : List Pr) (last : Int) (f : Pr → Pr) (i : Nat) : Prop where
  t0 : W.cell? ⟨t, 0, none⟩ = some (.map (some m))
  t1 : W.cell? ⟨t, 1, none⟩ = some (.int .i64 last)
  tz : W.frozen? ⟨t, 1, none⟩ = false
  hm : MapIs kvi W m (alOf L)
  pr : ∀ j q, L[j]? = some q → PrAt W (if j < i then f q else q)
theorem Mid.same {S : Nat → Prop} {W W' : World} {t m : Nat} {L : List Pr} {last : Int} {f : Pr → Pr} {i : Nat} (h : Mid W t m L last f i) (hf : ∀ q, (f q).pid = q.pid ∧ (f q).b = q.b) (hs : Same S W W') (hS : ∀ b, Own t m L b → ¬ S b) : Mid W' t m L last f i :=
  ⟨hs.cell h.t0 (hS _ (.inl rfl)), hs.cell h.t1 (hS _ (.inl rfl)), hs.unfrozen h.t1 h.tz (hS _ (.inl rfl)), h.hm.same hs (hS _ (.inr (.inl rfl))), fun j q hq => (h.pr j q hq).same hs (by
    have hb : (if j < i then f q else q).b = q.b := by split; exact (hf q).2; rfl
    rw [hb]; exact hS _ (.inr (.inr ⟨q, List.mem_of_getElem? hq, rfl⟩)))⟩
theorem Mid.start {W : World} {t m : Nat} {L : List Pr} {last : Int} (h : TabAt W t m L last) (f : Pr → Pr) : Mid W t m L last f 0 :=
  ⟨h.t0, h.t1, h.tz, h.hm, fun j q hq => by rw [if_neg (by omega)]; exact h.pr q (List.mem_of_getElem? hq)⟩
theorem Mid.done {w W : World} {t m : Nat} {L : List Pr} {last : Int} {f : Pr → Pr} (h0 : TabAt w t m L last) (hf : ∀ q, (f q).pid = q.pid ∧ (f q).b = q.b) (h : Mid W t m L last f L.length) : TabAt W t m (L.map f) last :=
  h0.mapped f hf h.t0 h.t1 h.tz h.hm (fun q hq => by
    obtain ⟨j, hj, rfl⟩ := List.getElem_of_mem hq
    have := h.pr j _ (List.getElem?_eq_getElem hj)
    rwa [if_pos hj] at this)
theorem Mid.step {w W W' : World} {t m : Nat} {L : List Pr} {last : Int} {f : Pr → Pr} {i : Nat} {p : Pr} (h0 : TabAt w t m L last) (hf : ∀ q, (f q).pid = q.pid ∧ (f q).b = q.b) (h : Mid W t m L last f i) (hp : L[i]? = some p) (hs : Same (· = p.b) W W') (hp' : PrAt W' (f p)) : Mid W' t m L last f (i + 1) := by
  have hmem := List.mem_of_getElem? hp
  have hnb := h0.nb p hmem
  refine ⟨hs.cell h.t0 (fun e => hnb.1 e.symm), hs.cell h.t1 (fun e => hnb.1 e.symm), hs.unfrozen h.t1 h.tz (fun e => hnb.1 e.symm), h.hm.same hs (fun e => hnb.2 e.symm), fun j q hq => ?_⟩
  by_cases e : j = i
  · subst e
    rw [hp] at hq
    obtain rfl := Option.some.inj hq
    rw [if_pos (by omega)]
    exact hp'
  · have hb : (if j < i + 1 then f q else q).b = q.b := by split; exact (hf q).2; rfl
    have he : (if j < i + 1 then f q else q) = (if j < i then f q else q) := by
      by_cases e2 : j < i
      · rw [if_pos e2, if_pos (by omega)]
      · rw [if_neg e2, if_neg (by omega)]
    rw [he]
    rw [he] at hb
    refine (h.pr j q hq).same hs ?_
    rw [hb]
    intro e3
    have hqp := h0.uniq (List.mem_of_getElem? hq) hmem (.inr e3)
    subst hqp
    obtain ⟨hj, hj2⟩ := List.getElem?_eq_some_iff.1 hq
    obtain ⟨hi, hi2⟩ := List.getElem?_eq_some_iff.1 hp
    have hasc := List.pairwise_iff_getElem.1 h0.asc
    rcases Nat.lt_or_gt_of_ne e with h | h
    · have := hasc j i hj hi h; rw [hj2, hi2] at this; omega
    · have := hasc i j hi hj h; rw [hj2, hi2] at this; omega
end Go.Proofs.Ytaeabeofpkfadaa
