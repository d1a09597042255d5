import Derived.Test.YtdhmbpipjdapfaaGreatShK1
namespace Go.Proofs
open Go Go.Sh
set_option maxRecDepth 20000
def anyB (h : List Ev) (txn : Int) : Bool := h.any fun e => decide (e.txn = txn)
def doneB (h : List Ev) (txn : Int) : Bool := h.any fun e => decide (e.txn = txn) && decide (e.kind = 4 ∨ e.kind = 5)
theorem take_succ' {α : Type} (h : List α) (i : Nat) (hi : i < h.length) : h.take (i + 1) = h.take i ++ [h[i]] := by
  rw [List.take_add_one, List.getElem?_eq_getElem hi]; rfl
theorem anyB_succ (h : List Ev) (i : Nat) (hi : i < h.length) (txn : Int) : anyB (h.take (i + 1)) txn = (anyB (h.take i) txn || decide (h[i].txn = txn)) := by
  rw [take_succ' h i hi]; simp only [anyB, List.any_append, List.any_cons, List.any_nil, Bool.or_false]
theorem doneB_succ (h : List Ev) (i : Nat) (hi : i < h.length) (txn : Int) : doneB (h.take (i + 1)) txn = (doneB (h.take i) txn || (decide (h[i].txn = txn) && decide (h[i].kind = 4 ∨ h[i].kind = 5))) := by
  rw [take_succ' h i hi]; simp only [doneB, List.any_append, List.any_cons, List.any_nil, Bool.or_false]
theorem over_c (h : List Ev) (hl : h.length ≤ 140737488355328) (o : Sh.Own) (txn : Int) : PureC Tryz.prog 71 [avH h o, .int .i64 txn] (.tup [.bool (anyB h txn), .bool (doneB h txn)]) := by
  refine pure_of_dwp Tryz.func71 rfl (by kernel_rfl) (by simp [Tryz.ntmps71]) fun st K hK => ?_
  rw [Tryz.ntmps71]
  refine dwp_of_vk (by kernel_rfl) ?_
  simp
  refine newK_intro fun p hp => ?_
  simp
  refine newK_intro fun q hq => ?_
  rw [upd_none_iff] at hq
  obtain ⟨hqp, hq⟩ := hq
  have hpq := Ne.symm hqp
  simp [hqp, hpq]
  refine callK_intro (of_c h o txn fun a b ha hb hab => ?_)
  simp only [upd_none_iff] at ha hb
  obtain ⟨haq, hap, -, -, ha⟩ := ha
  obtain ⟨hbq, hbp, -, -, hb⟩ := hb
  simp
  refine lk_rangeFunc (gf := 124) (caps := [.box a 0, .box b 0]) (by simp) fun l hl' => ?_
  simp only [upd_none_iff] at hl'
  obtain ⟨hlb, hla, hlq, hlp, -, -, hl'⟩ := hl'
  generalize hO : (AObj.loop _ _ _ _ _ none : AObj) = O
  refine of1_c h hl o txn (fun i => ((((st.upd p (.cells 4 [.bool (anyB (h.take i) txn)])).upd q (.cells 4 [.bool (doneB (h.take i) txn)])).upd a (.cells 22 [avH h o])).upd b (.cells 3 [.int .i64 txn])).upd l O) (fun _ => True) (fun _ => False) ?_ trivial (fun i hi => ⟨O, by simp⟩) ?_ ?_ ?_ ?_ ?_ (fun _ h => h.elim)
  · intro j y e
    simp only [upd_app] at e ⊢
    by_cases h1 : j = l <;> by_cases h2 : j = b <;> by_cases h3 : j = a <;> by_cases h4 : j = q <;> by_cases h5 : j = p <;> simp_all [anyB, doneB]
  · intro i hi
    simp [hab, Ne.symm hla]
  · intro i hi
    simp [Ne.symm hlb]
  · intro i hi _ ht K' hK1 hK2
    refine dround_intro' hO (by simp) rfl (by kernel_rfl) (by kernel_rfl) (by kernel_rfl) (by kernel_rfl) fun R hR _ => ?_
    simp
    refine newK_intro fun x hx => ?_
    have hql := Ne.symm hlq
    have hpl := Ne.symm hlp
    have hqa := Ne.symm haq
    have hqb := Ne.symm hbq
    have hpa := Ne.symm hap
    have hpb := Ne.symm hbp
    obtain ⟨hxp, hxq, hxa, hxb, hx0⟩ : p ≠ x ∧ q ≠ x ∧ a ≠ x ∧ b ≠ x ∧ st x = none := by
      rcases del_none hx with rfl | hx
      · exact ⟨hpl, hql, Ne.symm hla, Ne.symm hlb, hl'⟩
      · simp only [upd_none_iff] at hx
        obtain ⟨-, h5, h4, h1, h2, h3⟩ := hx
        exact ⟨Ne.symm h2, Ne.symm h1, Ne.symm h4, Ne.symm h5, h3⟩
    simp [hxq, hxp, hql, hpl, hqa, hqb, hpa, hpb, hqp, hpq]
    have fin : ∀ s, s p = some (.cells 4 [.bool true]) → s q = some (.cells 4 [.bool (doneB (h.take (i + 1)) txn)]) → s a = some (.cells 22 [avH h o]) → s b = some (.cells 3 [.int .i64 txn]) → St.le st s → R none s := by
      intro s h1 h2 h3 h4 h5
      refine hR _ (hK1 _ trivial ?_)
      refine le_left (by simp) (le_left (by simp [Ne.symm hlb, h4]) (le_left (by simp [Ne.symm hla, h3]) (le_left (by simp [hql, h2]) (le_left (by simp [hpl, h1, anyB_succ h i hi, ht]) (le_right hl' h5)))))
    by_cases hd : doneB (h.take i) txn = true
    · simp [hd, hxq, hxp, hql, hpl, hqa, hqb, hpa, hpb, hqp, hpq]
      refine fin _ (by simp [hpq]) (by simp [doneB_succ h i hi, hd]) (by simp [haq, hap, hxa, hab, Ne.symm hla]) (by simp [hbq, hbp, hxb, Ne.symm hlb]) ?_
      repeat first | exact .refl _ | refine le_right (by assumption) ?_ | refine le_del (by assumption) ?_
    · simp only [Bool.not_eq_true] at hd
      simp [hd]
      refine callK_pure (ends_c h[i]) ?_
      simp [hd, hxq, hxp, hql, hpl, hqa, hqb, hpa, hpb, hqp, hpq]
      refine fin _ (by simp [hpq]) (by simp [doneB_succ h i hi, hd, ht]) (by simp [haq, hap, hxa, hab, Ne.symm hla]) (by simp [hbq, hbp, hxb, Ne.symm hlb]) ?_
      repeat first | exact .refl _ | refine le_right (by assumption) ?_ | refine le_del (by assumption) ?_
  · intro i hi _ ht
    refine ⟨trivial, fun j y e => ?_⟩
    simpa [anyB_succ h i hi, doneB_succ h i hi, ht] using e
  · intro s _ hs
    have hql := Ne.symm hlq
    have hpl := Ne.symm hlp
    have hqa := Ne.symm haq
    have hqb := Ne.symm hbq
    have hpa := Ne.symm hap
    have hpb := Ne.symm hbp
    have hp' := cellsAt_of (hs p (.cells 4 [.bool (anyB h txn)]) (by simp [hpl, hpa, hpb, hpq]))
    have hq' := cellsAt_of (hs q (.cells 4 [.bool (doneB h txn)]) (by simp [hql, hqa, hqb]))
    refine ⟨none, ?_, ?_⟩
    · rw [hO]
      exact hs l _ (by simp)
    simp
    refine lk_draw mixed [[], [], [], []] [] (by kernel_rfl) ?_
    simp [hpl, hql, hp', hq', Tryz.results71]
    refine fin' (.refl _) ?_ hK
    intro j y e
    have hjp : j ≠ p := by rintro rfl; rw [hp] at e; cases e
    have hjq : j ≠ q := by rintro rfl; rw [hq] at e; cases e
    have hja : j ≠ a := by rintro rfl; rw [ha] at e; cases e
    have hjb : j ≠ b := by rintro rfl; rw [hb] at e; cases e
    have hjl : j ≠ l := by rintro rfl; rw [hl'] at e; cases e
    simp [hjl]
    exact hs j y (by simp [hjp, hjq, hja, hjb, hjl, e])
end Go.Proofs
