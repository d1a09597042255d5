import Derived.Test.YtdhmbpipjdapfaaGreatShK4
namespace Go.Proofs
open Go Go.Sh
set_option maxRecDepth 20000
@[simp] theorem ti39 : tiOf Tryz.prog 39 = some ⟨.int .i64, 1, 8, [.int .i64 0]⟩ := by kernel_rfl
def stepE (h : List Ev) (i : Nat) (x : Ev) : Int :=
  if mayEv x = false then 1
  else if x.kind = 1 ∧ anyB (h.take i) x.txn = true then 8
  else if x.kind = 1 then 0
  else if anyB (h.take i) x.txn = false then 7
  else if doneB (h.take i) x.txn = true then 9
  else if x.kind = 3 ∧ 0 ≤ idxOf (h.take i) (fun y => decide (y.kind = 3 ∧ y.val = x.val)) then 8
  else if x.kind = 2 ∧ x.val ≠ ⟨#[]⟩ ∧ writerOf h x.key x.val < 0 then 7
  else 0
theorem contEv_take (h : List Ev) (hl : h.length ≤ 140737488355328) (i : Nat) (o : Sh.Own) (g : FuncId) (caps : List AV) (p : Ev → Bool) {st : St} {K : AV → St → Prop}
    (hp : ∀ e ∈ h, ∀ K' : AV → St → Prop, K' (.bool (p e)) st → dcall Tryz.prog g (.agg (encEv e) :: caps) st K') (hK : K (.bool (decide (0 ≤ idxOf (h.take i) p))) st) :
    dcall Tryz.prog 99 [.list 4 ((h.map encEv).take i) o, .fn g caps] st K := by
  have := contEv_c (h.take i) (by rw [List.length_take]; omega) o g caps p (fun e he => hp e (List.mem_of_mem_take he)) hK
  rwa [avH, List.map_take] at this
theorem step_c (h : List Ev) (hl : h.length ≤ 140737488355328) (o : Sh.Own) (i : Nat) (hi : i < h.length) : PureC Tryz.prog 70 [avH h o, .int .i64 i] (.int .i64 (stepE h i h[i])) := by
  refine pure_of_dwp Tryz.func70 rfl (by kernel_rfl) (by simp [Tryz.ntmps70]) fun st K hK => ?_
  rw [Tryz.ntmps70]
  refine dwp_of_vk (by kernel_rfl) ?_
  simp [hi]
  refine newK_intro fun a ha => ?_
  simp
  refine lk_draw mixed [[], [], [], [], [], [], [], [], [], [], []] [(19, .tup [.bool (anyB (h.take i) h[i].txn), .bool (doneB (h.take i) h[i].txn)])] (by kernel_rfl) ?_
  have hle : i ≤ h.length := Nat.le_of_lt hi
  have hne : ¬ (i : Int) = h.length := by omega
  have hov := over_c (h.take i) (by simp; omega) .no h[i].txn
  rw [avH, List.map_take] at hov
  simp [hle, hne, hov]
  simp only [← List.map_take]
  have hst : ∀ (v : Int) (s : St), v = stepE h i h[i] → St.le st s → ∃ r', AV.sub r' (.int .i64 v) ∧ ∃ x, St.le x s ∧ K r' x := by
    rintro v s rfl hl
    exact fin' (.refl _) hl hK
  refine callK_pure (may_c h[i]) ?_
  have hle' : ∀ A B, St.le st (((st.upd a A)).upd a B) := fun A B => le_right ha (le_right ha (.refl _))
  unfold stepE at hst
  by_cases hm : mayEv h[i] = false
  · simp [hm, Tryz.results70]
    exact hst _ _ (by simp [hm]) (hle' _ _)
  simp only [Bool.not_eq_false] at hm
  simp [hm]
  by_cases h1 : h[i].kind = 1
  · simp [h1]
    by_cases ha1 : anyB (h.take i) h[i].txn = true
    · simp [ha1, Tryz.results70]
      exact hst _ _ (by simp [hm, h1, ha1]) (hle' _ _)
    · simp [ha1, h1, Tryz.results70]
      exact hst _ _ (by simp [hm, h1, ha1]) (hle' _ _)
  simp [h1]
  by_cases ha1 : anyB (h.take i) h[i].txn = false
  · simp [ha1, Tryz.results70]
    exact hst _ _ (by simp [hm, h1, ha1]) (hle' _ _)
  simp only [Bool.not_eq_false] at ha1
  simp [ha1]
  by_cases hd : doneB (h.take i) h[i].txn = true
  · simp [hd, Tryz.results70]
    exact hst _ _ (by simp [hm, h1, ha1, hd]) (hle' _ _)
  simp only [Bool.not_eq_true] at hd
  simp [hd]
  by_cases h3 : h[i].kind = 3
  · simp [h3, hle, hne]
    refine callK_intro (contEv_take h hl i .no 97 [.box a 0] (fun y => decide (y.kind = 3 ∧ y.val = h[i].val)) (fun e _ K' hK' => step1_c e h[i] (a := a) (by simp [h3]) hK') ?_)
    by_cases hx : 0 ≤ idxOf (h.take i) (fun y => decide (y.kind = 3 ∧ y.val = h[i].val))
    · simp only [hx, decide_true]
      simp [Tryz.results70]
      exact hst _ _ (by simp only [hm, h1, ha1, hd, h3, hx]; simp) (hle' _ _)
    · simp only [hx, decide_false]
      simp [h3, Tryz.results70]
      exact hst _ _ (by simp only [hm, h1, ha1, hd, h3, hx]; simp) (hle' _ _)
  · simp [h3]
    by_cases h2 : h[i].kind = 2
    · by_cases hv : h[i].val = ⟨#[]⟩
      · simp [h2, hv, Tryz.results70]
        exact hst _ _ (by simp [hm, h1, ha1, hd, h3, h2, hv]) (hle' _ _)
      · simp [h2, hv]
        refine callK_pure (writer_c h hl o _ _) ?_
        by_cases hw : writerOf h h[i].key h[i].val < 0
        · simp [hw, Tryz.results70]
          exact hst _ _ (by simp [hm, h1, ha1, hd, h3, h2, hv, hw]) (hle' _ _)
        · simp [hw, Tryz.results70]
          exact hst _ _ (by simp [hm, h1, ha1, hd, h3, h2, hv, hw]) (hle' _ _)
    · simp [h2, Tryz.results70]
      exact hst _ _ (by simp [hm, h1, ha1, hd, h3, h2]) (hle' _ _)
end Go.Proofs
