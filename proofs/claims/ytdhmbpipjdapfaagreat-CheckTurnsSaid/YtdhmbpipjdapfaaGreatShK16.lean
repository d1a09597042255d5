import Derived.Test.YtdhmbpipjdapfaaGreatShK15
namespace Go.Proofs
open Go Go.Sh
set_option maxRecDepth 20000
/-- Whether a verdict that accepts is so, where an order is not looked at. -/
theorem goodf_c (h : List Ev) (hl : h.length ≤ 1099511627776) (o : Sh.Own) (v : Vd) (o1 o2 : Sh.Own) (hf : v.bad.kind ≠ 0 ∨ v.ring ≠ [] ∨ badAll h ≠ []) : PureC Tryz.prog 50 [avH h o, .agg (encVd v o1 o2)] (.bool false) := by
  refine pure_of_dwp Tryz.func50 rfl (by kernel_rfl) (by simp [Tryz.ntmps50]) fun st K hK => ?_
  rw [Tryz.ntmps50]
  refine dwp_of_vk (by kernel_rfl) ?_
  simp
  refine newK_intro fun a ha => ?_
  have hle : ∀ A, St.le st (st.upd a A) := fun A => le_right ha (.refl _)
  by_cases h1 : v.bad.kind = 0
  · by_cases h2 : v.ring = []
    · have h3 : badAll h ≠ [] := by rcases hf with e | e | e; exact absurd h1 e; exact absurd h2 e; exact e
      simp [h1, h2]
      refine callK_pure (all_c h hl o) ?_
      simp [h3, Tryz.results50]
      exact fin' (.refl _) (hle _) hK
    · simp [h1, h2, Tryz.results50]
      exact fin' (.refl _) (hle _) hK
  · simp [h1, Tryz.results50]
    exact fin' (.refl _) (hle _) hK
def checkE (h : List Ev) (v : Vd) (g : Bool) : Int :=
  if v.level ≠ 1 ∧ v.level ≠ 2 then 1
  else if (formedE h).2 ≠ 0 then (formedE h).2
  else if (if v.acc then g else badE h v) = true then 0 else 14
theorem check_c (h : List Ev) (hl : h.length ≤ 140737488355328) (o : Sh.Own) (v : Vd) (o1 o2 : Sh.Own) (hr : v.ring.length ≤ 140737488355328) (g : Bool)
    (hg : (v.level = 1 ∨ v.level = 2) → (formedE h).2 = 0 → v.acc = true → PureC Tryz.prog 50 [avH h o, .agg (encVd v o1 o2)] (.bool g)) : PureC Tryz.prog 21 [avH h o, .agg (encVd v o1 o2)] (.int .i64 (checkE h v g)) := by
  refine pure_of_dwp Tryz.func21 rfl (by kernel_rfl) (by simp [Tryz.ntmps21]) fun st K hK => ?_
  rw [Tryz.ntmps21]
  refine dwp_of_vk (by kernel_rfl) ?_
  have hst : ∀ (b : Int) (s : St), b = checkE h v g → St.le st s → ∃ r', AV.sub r' (.int .i64 b) ∧ ∃ x, St.le x s ∧ K r' x := by
    rintro b s rfl hl
    exact fin' (.refl _) hl hK
  simp
  refine newK_intro fun a ha => ?_
  have hle : ∀ A, St.le st (st.upd a A) := fun A => le_right ha (.refl _)
  by_cases h0 : v.level = 1 ∨ v.level = 2
  · have hc : checkE h v g = if (formedE h).2 ≠ 0 then (formedE h).2 else if (if v.acc then g else badE h v) = true then 0 else 14 := by
      unfold checkE
      rw [if_neg (by omega)]
    rw [hc] at hst
    rcases id h0 with e | e
    · simp [e]
      refine callK_pure (formed_c h hl o) ?_
      by_cases hf : (formedE h).2 = 0
      · simp [hf]
        rw [if_neg (by simp [hf])] at hst
        cases hac : v.acc
        · have hcall := bad_c h hl o v o1 o2 hr
          simp [hac]
          simp [e, hac] at hcall
          refine callK_pure hcall ?_
          cases hb : badE h v
          · simp [Tryz.results21]
            exact hst _ _ (by simp [hac, hb]) (hle _)
          · simp [Tryz.results21]
            exact hst _ _ (by simp [hac, hb]) (hle _)
        · have hcall := hg h0 hf hac
          simp [hac]
          simp [e, hac] at hcall
          refine callK_pure hcall ?_
          cases hb : g
          · simp [Tryz.results21]
            exact hst _ _ (by simp [hac, hb]) (hle _)
          · simp [Tryz.results21]
            exact hst _ _ (by simp [hac, hb]) (hle _)
      · simp [hf, Tryz.results21]
        exact hst _ _ (by rw [if_pos hf]) (hle _)
    · simp [e]
      refine callK_pure (formed_c h hl o) ?_
      by_cases hf : (formedE h).2 = 0
      · simp [hf]
        rw [if_neg (by simp [hf])] at hst
        cases hac : v.acc
        · have hcall := bad_c h hl o v o1 o2 hr
          simp [hac]
          simp [e, hac] at hcall
          refine callK_pure hcall ?_
          cases hb : badE h v
          · simp [Tryz.results21]
            exact hst _ _ (by simp [hac, hb]) (hle _)
          · simp [Tryz.results21]
            exact hst _ _ (by simp [hac, hb]) (hle _)
        · have hcall := hg h0 hf hac
          simp [hac]
          simp [e, hac] at hcall
          refine callK_pure hcall ?_
          cases hb : g
          · simp [Tryz.results21]
            exact hst _ _ (by simp [hac, hb]) (hle _)
          · simp [Tryz.results21]
            exact hst _ _ (by simp [hac, hb]) (hle _)
      · simp [hf, Tryz.results21]
        exact hst _ _ (by rw [if_pos hf]) (hle _)
  · simp only [not_or] at h0
    simp [h0.1, h0.2, Tryz.results21]
    exact hst _ _ (by simp [checkE, h0.1, h0.2]) (hle _)
end Go.Proofs
