import Derived.Test.YtdhmbpipjdapfaaGreatShK16
namespace Go.Proofs
open Go Go.Sh
set_option maxRecDepth 20000
def few13 (h : List Ev) : Bool := h.all (fun e => decide (0 ≤ e.txn ∧ e.txn ≤ 60)) && decide (h.length ≤ 80)
theorem few_c (h : List Ev) (hl : h.length ≤ 140737488355328) (o : Sh.Own) : PureC Tryz.prog 20 [avH h o] (.bool (few13 h)) := by
  refine pure_of_dwp Tryz.func20 rfl (by kernel_rfl) (by simp [Tryz.ntmps20]) fun st K hK => ?_
  rw [Tryz.ntmps20]
  refine dwp_of_vk (by kernel_rfl) ?_
  simp
  have hst : ∀ (b : Bool) (s : St), b = few13 h → St.le st s → ∃ r', AV.sub r' (.bool b) ∧ ∃ x, St.le x s ∧ K r' x := by
    rintro b s rfl hl
    exact fin' (.refl _) hl hK
  refine lk_loop (α := Nat) (fun i => Env.ofList [(0, avH h o), (3, .int .i64 i)]) (fun _ => st) (fun i => i ≤ h.length ∧ ∀ j (hj : j < h.length), j < i → 0 ≤ h[j].txn ∧ h[j].txn ≤ 60) (fun i => h.length - i) 0 (by kernel_rfl) ⟨Nat.zero_le _, fun _ _ hj => absurd hj (by omega)⟩ (Env.sub_ofList (by simp)) (.refl _) ?_
  rintro i ⟨hi, hno⟩ R hR hX
  simp
  by_cases hlt : i < h.length
  · have hw : IntKind.i64.wrap (↑i + 1) = ↑i + 1 := wrap_i64 (by omega) (by omega)
    have hfalse : ¬ (0 ≤ h[i].txn ∧ h[i].txn ≤ 60) → few13 h = false := by
      intro hn
      have : h.all (fun e => decide (0 ≤ e.txn ∧ e.txn ≤ 60)) = false := by
        rw [List.all_eq_false]
        exact ⟨h[i], List.getElem_mem hlt, by simpa using hn⟩
      unfold few13
      rw [this, Bool.false_and]
    by_cases h1 : h[i].txn < 0
    · simp [hlt, h1]
      refine hX .ret _ _ (by simp) ?_
      simp [Tryz.results20]
      exact hst _ _ (by rw [hfalse (by omega)]) (.refl _)
    · by_cases h2 : 60 < h[i].txn
      · simp [hlt, h1, h2]
        refine hX .ret _ _ (by simp) ?_
        simp [Tryz.results20]
        exact hst _ _ (by rw [hfalse (by omega)]) (.refl _)
      · simp [hlt, h1, h2]
        refine hR (i + 1) _ _ ⟨hlt, fun j hj hji => ?_⟩ (by omega) (Env.sub_ofList (by simp [hw])) (.refl _)
        by_cases e : j = i
        · subst e; omega
        · exact hno j hj (by omega)
  · simp [hlt]
    refine hX _ _ _ (by simp) ?_
    simp [Tryz.results20]
    refine hst _ _ ?_ (.refl _)
    have : h.all (fun e => decide (0 ≤ e.txn ∧ e.txn ≤ 60)) = true := by
      rw [List.all_eq_true]
      intro x hx
      obtain ⟨j, hj, rfl⟩ := List.getElem_of_mem hx
      simpa using hno j hj (by omega)
    unfold few13
    rw [this, Bool.true_and]
    congr 1
    apply propext
    omega
end Go.Proofs
