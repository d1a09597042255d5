import Derived.Test.YtdhmbpipjdapfaaGreatShK5
namespace Go.Proofs
open Go Go.Sh
set_option maxRecDepth 20000
def formedE (h : List Ev) : Int × Int :=
  if 256 < h.length then (0, 4)
  else match (List.range h.length).find? (fun i => decide (stepE h i (h.getD i default) ≠ 0)) with
    | some i => (i, stepE h i (h.getD i default))
    | none => (h.length, if h.all (fun x => doneB h x.txn) then 0 else 9)
theorem getD_lt {α : Type} (h : List α) (d : α) (i : Nat) (hi : i < h.length) : h.getD i d = h[i] := by simp [hi]
theorem find_range {n i : Nat} {p : Nat → Bool} (hi : i < n) (h1 : p i = true) (h2 : ∀ j, j < i → p j = false) : (List.range n).find? p = some i := by
  rw [List.find?_eq_some_iff_getElem]
  refine ⟨h1, i, by simpa using hi, by simp, fun j hj => ?_⟩
  simp [h2 j hj]
theorem formed_c (h : List Ev) (hl : h.length ≤ 140737488355328) (o : Sh.Own) : PureC Tryz.prog 38 [avH h o] (.tup [.int .i64 (formedE h).1, .int .i64 (formedE h).2]) := by
  refine pure_of_dwp Tryz.func38 rfl (by kernel_rfl) (by simp [Tryz.ntmps38]) fun st K hK => ?_
  rw [Tryz.ntmps38]
  refine dwp_of_vk (by kernel_rfl) ?_
  simp
  have hfin : ∀ (v e : Int) (s : St), (v, e) = formedE h → St.le st s → ∃ r', AV.sub r' (.tup [.int .i64 v, .int .i64 e]) ∧ ∃ x, St.le x s ∧ K r' x := by
    intro v e s hv hl
    rw [← hv] at hK
    exact fin' (.refl _) hl hK
  by_cases h256 : (256 : Int) < h.length
  · simp [h256, Tryz.results38]
    exact hfin _ _ _ (by unfold formedE; rw [if_pos (by omega)]) (.refl _)
  simp [h256]
  refine lk_loop (α := Nat) (fun i => Env.ofList [(0, avH h o), (14, .int .i64 h.length), (15, .int .i64 i)]) (fun _ => st) (fun i => i ≤ h.length ∧ ∀ j (hj : j < h.length), j < i → stepE h j h[j] = 0) (fun i => h.length - i) 0 (by kernel_rfl) ⟨Nat.zero_le _, fun _ _ hj => absurd hj (by omega)⟩ (Env.sub_ofList (by simp)) (.refl _) ?_
  rintro i ⟨hi, hno⟩ R hR hX
  simp
  by_cases hlt : i < h.length
  · have hw : IntKind.i64.wrap (↑i + 1) = ↑i + 1 := wrap_i64 (by omega) (by omega)
    simp [hlt]
    refine callK_pure (step_c h hl o i hlt) ?_
    by_cases he : stepE h i h[i] = 0
    · simp [he]
      refine hR (i + 1) _ _ ⟨hlt, fun j hj hji => ?_⟩ (by omega) (Env.sub_ofList (by simp [hw])) (.refl _)
      by_cases e : j = i
      · subst e; exact he
      · exact hno j hj (by omega)
    · simp [he]
      refine hX .ret _ _ (by simp) ?_
      simp [Tryz.results38]
      refine hfin _ _ _ ?_ (.refl _)
      unfold formedE
      rw [if_neg (by omega), find_range hlt (by simp [hlt, he]) fun j hj => ?_]
      · simp [hlt]
      · simp [show j < h.length by omega, hno j (by omega) hj]
  · simp [hlt]
    refine hX _ _ _ (by simp) ?_
    have hi' : i = h.length := by omega
    subst hi'
    have hnone : (List.range h.length).find? (fun i => decide (stepE h i (h.getD i default) ≠ 0)) = none := by
      rw [List.find?_eq_none]
      intro j hj
      have hj := List.mem_range.1 hj
      simp [hj, hno j hj hj]
    simp
    refine lk_loop (α := Nat) (fun i => Env.ofList [(0, avH h o), (26, avH h o), (27, .int .i64 h.length), (28, .int .i64 i)]) (fun _ => st) (fun i => i ≤ h.length ∧ ∀ j (hj : j < h.length), j < i → doneB h h[j].txn = true) (fun i => h.length - i) 0 (by kernel_rfl) ⟨Nat.zero_le _, fun _ _ hj => absurd hj (by omega)⟩ (Env.sub_ofList (by simp)) (.refl _) ?_
    rintro i ⟨hi, hno⟩ R hR hX
    simp
    by_cases hlt : i < h.length
    · have hw : IntKind.i64.wrap (↑i + 1) = ↑i + 1 := wrap_i64 (by omega) (by omega)
      simp [hlt]
      refine newK_intro fun x hx => ?_
      simp
      refine callK_pure (over_c h hl o _) ?_
      by_cases he : doneB h h[i].txn = true
      · simp [he]
        refine hR (i + 1) _ _ ⟨hlt, fun j hj hji => ?_⟩ (by omega) (Env.sub_ofList (by simp [hw])) (le_right hx (le_right hx (.refl _)))
        by_cases e : j = i
        · subst e; exact he
        · exact hno j hj (by omega)
      · simp [he]
        refine hX .ret _ _ (by simp) ?_
        simp [Tryz.results38]
        refine hfin _ _ _ ?_ (le_right hx (le_right hx (.refl _)))
        unfold formedE
        rw [if_neg (by omega), hnone]
        have : h.all (fun x => doneB h x.txn) = false := by
          rw [List.all_eq_false]
          exact ⟨h[i], List.getElem_mem hlt, he⟩
        simp [this]
    · simp [hlt]
      refine hX _ _ _ (by simp) ?_
      simp [Tryz.results38]
      refine hfin _ _ _ ?_ (.refl _)
      unfold formedE
      rw [if_neg (by omega), hnone]
      have : h.all (fun x => doneB h x.txn) = true := by
        rw [List.all_eq_true]
        intro x hx
        obtain ⟨j, hj, rfl⟩ := List.getElem_of_mem hx
        exact hno j hj (by omega)
      simp [this]
end Go.Proofs
