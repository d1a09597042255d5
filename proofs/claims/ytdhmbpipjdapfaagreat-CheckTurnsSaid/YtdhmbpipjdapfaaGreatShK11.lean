import Derived.Test.YtdhmbpipjdapfaaGreatShK10
namespace Go.Proofs
open Go Go.Sh
set_option maxRecDepth 20000
def aheadE (h : List Ev) (a b : Int) : Bool × Bool := ((findOf h a).1.com && (findOf h b).1.com, decide ((findOf h a).1.to < (findOf h b).1.to))
theorem ahead_c (h : List Ev) (hl : h.length ≤ 140737488355328) (o : Sh.Own) (a b : Int) : PureC Tryz.prog 90 [avH h o, .int .i64 a, .int .i64 b] (.tup [.bool (aheadE h a b).1, .bool (aheadE h a b).2]) := by
  refine pure_of_dwp Tryz.func90 rfl (by kernel_rfl) (by simp [Tryz.ntmps90]) fun st K hK => ?_
  rw [Tryz.ntmps90]
  refine dwp_of_vk (by kernel_rfl) ?_
  simp
  refine callK_pure (find_c h hl o a) ?_
  simp
  refine newK_intro fun x hx => ?_
  simp
  refine callK_pure (find_c h hl o b) ?_
  simp
  refine newK_intro fun y hy => ?_
  simp only [upd_none_iff] at hy
  obtain ⟨hyx, -, hy⟩ := hy
  have hxy := Ne.symm hyx
  simp
  refine lk_draw mixed [[], [], [], [], [], [], [], [], [], [], [], [], []] [] (by kernel_rfl) ?_
  cases hc : (findOf h a).1.com
  · simp [hc, hxy, hyx, Tryz.results90]
    refine fin' (.refl _) ?_ (by simpa [aheadE, hc] using hK)
    repeat first | exact .refl _ | refine le_right (by assumption) ?_
  · simp [hc, hxy, hyx, Tryz.results90]
    refine fin' (.refl _) ?_ (by simpa [aheadE, hc] using hK)
    repeat first | exact .refl _ | refine le_right (by assumption) ?_
def isE (h : List Ev) (i kind txn : Int) : Bool := decide (0 ≤ i ∧ i < h.length) && (decide ((h.getD i.toNat default).kind = kind) && decide ((h.getD i.toNat default).txn = txn))
theorem is_c (h : List Ev) (o : Sh.Own) (i kind txn : Int) : PureC Tryz.prog 91 [avH h o, .int .i64 i, .int .i64 kind, .int .i64 txn] (.bool (isE h i kind txn)) := by
  refine pure_of_dwp Tryz.func91 rfl (by kernel_rfl) (by simp [Tryz.ntmps91]) fun st K hK => ?_
  rw [Tryz.ntmps91]
  refine dwp_of_vk (by kernel_rfl) ?_
  simp
  by_cases h1 : 0 ≤ i
  · obtain ⟨n, rfl⟩ : ∃ n : Nat, i = n := ⟨i.toNat, by omega⟩
    by_cases h2 : n < h.length
    · by_cases h3 : h[n].kind = kind
      · simp [h2, h3, Tryz.results91]
        exact fin (by simpa [isE, h2, h3] using hK)
      · simp [h2, h3, Tryz.results91]
        exact fin (by simpa [isE, h2, h3] using hK)
    · simp [h2, Tryz.results91]
      exact fin (by simpa [isE, h2] using hK)
  · simp [h1, Tryz.results91]
    exact fin (by simpa [isE, h1] using hK)
def overE (h : List Ev) (x : Ev) (to : Int) : Bool :=
  if x.val = ⟨#[]⟩ then true
  else if writerOf h x.key x.val < 0 then false
  else if (h.getD (writerOf h x.key x.val).toNat default).txn = to then false
  else (aheadE h (h.getD (writerOf h x.key x.val).toNat default).txn to).1 && (aheadE h (h.getD (writerOf h x.key x.val).toNat default).txn to).2
theorem eover_c (h : List Ev) (hl : h.length ≤ 140737488355328) (o : Sh.Own) (x : Ev) (to : Int) : PureC Tryz.prog 92 [avH h o, .agg (encEv x), .int .i64 to] (.bool (overE h x to)) := by
  refine pure_of_dwp Tryz.func92 rfl (by kernel_rfl) (by simp [Tryz.ntmps92]) fun st K hK => ?_
  rw [Tryz.ntmps92]
  refine dwp_of_vk (by kernel_rfl) ?_
  simp
  refine newK_intro fun a ha => ?_
  simp
  have hle : ∀ A, St.le st (st.upd a A) := fun A => le_right ha (.refl _)
  by_cases hv : x.val = ⟨#[]⟩
  · simp [hv, Tryz.results92]
    exact fin' (.refl _) (hle _) (by simpa [overE, hv] using hK)
  simp [hv]
  refine callK_pure (writer_c h hl o x.key x.val) ?_
  by_cases hw : writerOf h x.key x.val < 0
  · simp [hw, Tryz.results92]
    exact fin' (.refl _) (hle _) (by simpa [overE, hv, hw] using hK)
  obtain ⟨w, hwl, hwe, -⟩ := idxOf_nat hw
  have hwe : writerOf h x.key x.val = w := hwe
  have hdw : h.getD w default = h[w] := by simp [hwl]
  have ho : overE h x to = if h[w].txn = to then false else (aheadE h h[w].txn to).1 && (aheadE h h[w].txn to).2 := by
    unfold overE
    rw [if_neg hv, if_neg hw, hwe, Int.toNat_natCast, hdw]
  rw [ho] at hK
  rw [hwe]
  have hw0 : ¬ ((w : Int) < 0) := by omega
  by_cases ht : h[w].txn = to
  · simp [hw0, hwl, ht, Tryz.results92]
    exact fin' (.refl _) (hle _) (by simpa [ht] using hK)
  · simp [hw0, hwl, ht]
    refine callK_pure (ahead_c h hl o h[w].txn to) ?_
    cases hA : (aheadE h h[w].txn to).1
    · simp [hA, Tryz.results92]
      exact fin' (.refl _) (hle _) (by simpa [ht, hA] using hK)
    · simp [hA, Tryz.results92]
      exact fin' (.refl _) (hle _) (by simpa [ht, hA] using hK)
end Go.Proofs
