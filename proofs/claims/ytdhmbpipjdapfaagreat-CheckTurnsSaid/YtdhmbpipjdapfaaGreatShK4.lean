import Derived.Test.YtdhmbpipjdapfaaGreatShK3
namespace Go.Proofs
open Go Go.Sh
set_option maxRecDepth 20000
@[simp] theorem ef30 : eqFlat Tryz.prog 30 = some [.int, .int, .str, .str] := by kernel_rfl
def mayEv (e : Ev) : Bool := decide (1 ≤ e.kind ∧ e.kind ≤ 5 ∧ 1 ≤ e.txn ∧ e.txn ≤ 32) &&
  if e.kind = 2 ∨ e.kind = 3 then decide (1 ≤ e.key.size ∧ e.key.size ≤ 32 ∧ e.val.size ≤ 32 ∧ (e.kind = 2 ∨ e.val ≠ ⟨#[]⟩)) else decide (e.key = ⟨#[]⟩ ∧ e.val = ⟨#[]⟩)
theorem may_c (e : Ev) : PureC Tryz.prog 98 [.agg (encEv e)] (.bool (mayEv e)) := by
  refine pure_of_dwp Tryz.func98 rfl (by kernel_rfl) (by simp [Tryz.ntmps98]) fun st K hK => ?_
  rw [Tryz.ntmps98]
  refine dwp_of_vk (by kernel_rfl) ?_
  simp
  refine newK_intro fun a ha => ?_
  simp
  refine newK_intro fun b hb => ?_
  rw [upd_none_iff] at hb
  obtain ⟨hba, hb⟩ := hb
  have hab := Ne.symm hba
  have fin : ∀ (v : Bool) (s : St), v = mayEv e → St.le st s → ∃ r', AV.sub r' (.bool v) ∧ ∃ x, St.le x s ∧ K r' x := by
    rintro v s rfl hl
    exact fin' (.refl _) hl hK
  simp [hba, hab]
  by_cases h1 : e.kind < 1
  · simp [h1, hab, hba, Tryz.results98]
    exact fin _ _ (by simp [mayEv]; omega) (by repeat first | exact .refl _ | refine le_right (by assumption) ?_)
  by_cases h2 : 5 < e.kind
  · simp [h1, h2, hab, hba, Tryz.results98]
    exact fin _ _ (by simp [mayEv]; omega) (by repeat first | exact .refl _ | refine le_right (by assumption) ?_)
  simp [h1, h2, hab, hba]
  by_cases h3 : e.txn < 1
  · simp [h3, hab, hba, Tryz.results98]
    exact fin _ _ (by simp [mayEv]; omega) (by repeat first | exact .refl _ | refine le_right (by assumption) ?_)
  by_cases h4 : 32 < e.txn
  · simp [h3, h4, hab, hba, Tryz.results98]
    exact fin _ _ (by simp [mayEv]; omega) (by repeat first | exact .refl _ | refine le_right (by assumption) ?_)
  simp [h3, h4, hab, hba]
  refine callK_pure (keyed_c e.kind) ?_
  have hm : mayEv e = if e.kind = 2 ∨ e.kind = 3 then decide (1 ≤ e.key.size ∧ e.key.size ≤ 32 ∧ e.val.size ≤ 32 ∧ (e.kind = 2 ∨ e.val ≠ ⟨#[]⟩)) else decide (e.key = ⟨#[]⟩ ∧ e.val = ⟨#[]⟩) := by
    have : decide (1 ≤ e.kind ∧ e.kind ≤ 5 ∧ 1 ≤ e.txn ∧ e.txn ≤ 32) = true := by simp; omega
    rw [mayEv, this, Bool.true_and]
  by_cases hk : e.kind = 2 ∨ e.kind = 3
  · simp [hk, hab, hba]
    by_cases g1 : (1 : Int) ≤ e.key.size
    · by_cases g2 : (e.key.size : Int) ≤ 32
      · by_cases g3 : (e.val.size : Int) ≤ 32
        · by_cases g4 : e.kind = 2
          · simp [g1, g2, g3, g4, hab, hba, Tryz.results98]
            refine fin _ _ ?_ (by repeat first | exact .refl _ | refine le_right (by assumption) ?_)
            rw [hm]; simp [g4]; omega
          · have g5 : e.kind = 3 := by omega
            simp [g1, g2, g3, g4, g5, hab, hba, Tryz.results98]
            refine fin _ _ ?_ (by repeat first | exact .refl _ | refine le_right (by assumption) ?_)
            rw [hm]; simp [g5, show 1 ≤ e.key.size by omega, show e.key.size ≤ 32 by omega, show e.val.size ≤ 32 by omega]
        · simp [g1, g2, g3, hab, hba, Tryz.results98]
          refine fin _ _ ?_ (by repeat first | exact .refl _ | refine le_right (by assumption) ?_)
          rw [hm]; simp [hk]; omega
      · simp [g1, g2, hab, hba, Tryz.results98]
        refine fin _ _ ?_ (by repeat first | exact .refl _ | refine le_right (by assumption) ?_)
        rw [hm]; simp [hk]; omega
    · simp [g1, hab, hba, Tryz.results98]
      refine fin _ _ ?_ (by repeat first | exact .refl _ | refine le_right (by assumption) ?_)
      rw [hm]; simp [hk]; omega
  · simp [hk, hab, hba, Tryz.results98]
    exact fin _ _ (by rw [hm]; simp [hk]) (by repeat first | exact .refl _ | refine le_right (by assumption) ?_)
end Go.Proofs
