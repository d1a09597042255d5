import Derived.Test.YtdhmbpipjdapfaaGreatShBp
import Derived.Test.YtdhmbpipjdapfaaGreatShBk
set_option linter.unusedSimpArgs false
set_option linter.unusedVariables false
namespace Go.Proofs
open Go Go.Sh
set_option maxRecDepth 20000
theorem shape33 {m : Nat} {us : List AV} (h : Shape Tryz.prog (m + 3) 33 us) : ∃ l : List Int, us = [avI l .no] ∧ l.length ≤ 140737488355328 := by
  replace h := shape_sl Tryz.underlying33 h
  rw [cO3, bO3] at h
  obtain ⟨xs, rfl, hl, hx⟩ := h
  obtain ⟨l, rfl⟩ := map_of_all (enc := celI) fun x hx' => shape3 (hx x hx')
  refine ⟨l, rfl, ?_⟩
  simp only [List.length_map, reachBytes] at hl
  omega
/-- An order that is Ahead at Serial is so at Snapshot. -/
theorem ahead_levels (h : List Ev) (order : List Int) (ha : aheadOk h 1 order = true) : aheadOk h 2 order = true := by
  unfold aheadOk at *
  rw [Bool.and_eq_true] at ha ⊢
  refine ⟨ha.1, ?_⟩
  have h1 : ∀ e ∈ allE h, plc order order.length e.frm < plc order order.length e.to := by
    intro e he
    have := ha.2
    rw [Bool.not_eq_true', List.any_eq_false] at this
    have h2 := this ⟨e.frm, e.to, [e]⟩ (List.mem_flatMap.2 ⟨e, he, by simp [stepOf]⟩)
    simpa [backE] using h2
  rw [Bool.not_eq_true', List.any_eq_false]
  intro s hs
  obtain ⟨e, he, hs⟩ := List.mem_flatMap.1 hs
  unfold stepOf at hs
  split at hs
  · simp at hs
  · rcases List.mem_cons.1 hs with rfl | hs
    · simpa [backE] using h1 e he
    · obtain ⟨f, hf, hs⟩ := List.mem_flatMap.1 hs
      unfold inE at hs
      split at hs
      · rename_i hc
        obtain rfl := List.mem_singleton.1 hs
        have a1 := h1 e he
        have a2 := h1 f hf
        rw [hc.2.2] at a2
        simp [backE]; omega
      · simp at hs
theorem round_levels (h : List Ev) (l : List Ed) (hr : roundE h 2 l = true) : roundE h 1 l = true := by
  unfold roundE at *
  rw [Bool.and_eq_true] at hr ⊢
  refine ⟨hr.1, ?_⟩
  rw [List.all_eq_true] at *
  intro i hi
  have := hr.2 i hi
  unfold roundOk at *
  simp only [Bool.and_eq_true] at this ⊢
  exact ⟨this.1, this.2.1, by simp⟩
theorem levels_c (h : List Ev) (hl : h.length ≤ 140737488355328) (o : Sh.Own) (order : List Int) (hlo : order.length ≤ 140737488355328) (o1 : Sh.Own) (l : List Ed) (hll : l.length ≤ 140737488355328) (o2 : Sh.Own) :
    PureC Tryz.prog 10 [avH h o, avI order o1, avE l o2] (.bool true) := by
  refine pure_of_dwp Tryz.func10 rfl (by kernel_rfl) (by simp [Tryz.ntmps10]) fun st K hK => ?_
  rw [Tryz.ntmps10]
  refine dwp_of_vk (by kernel_rfl) ?_
  simp
  refine callK_pure shown_c ?_
  simp
  refine callK_pure (few_c h hl o) ?_
  cases hf : few13 h
  · simp [Tryz.results10]
    exact fin hK
  have hh : h.length ≤ 80 := by simp [few13] at hf; exact hf.2
  by_cases h1 : (100 : Int) < l.length
  · simp [h1, Tryz.results10]
    exact fin hK
  by_cases h2 : (100 : Int) < order.length
  · simp [h1, h2, Tryz.results10]
    exact fin hK
  simp [h1, h2]
  refine callK_pure (checkAhead_c h (by omega) o 1 order (by omega) o1) ?_
  have c1 := checkAhead_c h (by omega) o 2 order (by omega) o1
  have c2 := round_c h hl o 2 l hll o2
  have c3 := round_c h hl o 1 l hll o2
  have l1 := ahead_levels h order
  have l2 := round_levels h l
  cases ha : aheadOk h 1 order
  · simp
    refine callK_pure c2 ?_
    cases hr : roundE h 2 l
    · simp [Tryz.results10]
      exact fin hK
    · rw [l2 hr] at c3
      simp
      refine callK_pure c3 ?_
      simp [Tryz.results10]
      exact fin hK
  · rw [l1 ha] at c1
    simp
    refine callK_pure c1 ?_
    simp
    refine callK_pure c2 ?_
    cases hr : roundE h 2 l
    · simp [Tryz.results10]
      exact fin hK
    · rw [l2 hr] at c3
      simp
      refine callK_pure c3 ?_
      simp [Tryz.results10]
      exact fin hK
theorem levels_pure (u1 : AV) (h1 : ShapeV Tryz.prog 12 22 u1) (u2 : AV) (h2 : ShapeV Tryz.prog 12 33 u2) (u3 : AV) (h3 : ShapeV Tryz.prog 12 36 u3) : PureC Tryz.prog 10 [u1, u2, u3] (.bool true) := by
  simp only [ShapeV, Tryz.underlying22] at h1
  simp only [ShapeV, Tryz.underlying33] at h2
  simp only [ShapeV, Tryz.underlying36] at h3
  obtain ⟨l, hu, hl⟩ := shape22 h1
  obtain ⟨r, hu2, hr⟩ := shape33 h2
  obtain ⟨e, hu3, he⟩ := shape36 h3
  injection hu with hu
  injection hu2 with hu2
  injection hu3 with hu3
  subst hu hu2 hu3
  exact levels_c l hl .no r hr .no e he .no
end Go.Proofs
