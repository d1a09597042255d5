import Derived.Test.YtdhmbpipjdapfaaGreatShK12
namespace Go.Proofs
open Go Go.Sh
set_option maxRecDepth 20000
abbrev avE (l : List Ed) (o : Sh.Own) : AV := .list 5 (l.map encEd) o
/-- The next one, round. -/
def nxt (l : List Ed) (i : Nat) : Ed := l.getD ((i + 1) % l.length) default
def roundOk (h : List Ev) (level : Int) (l : List Ed) (i : Nat) : Bool :=
  holdsE h (l.getD i default) && (decide ((l.getD i default).to = (nxt l i).frm) && !(decide (level = 2) && (decide ((l.getD i default).kind = 3) && decide ((nxt l i).kind = 3))))
def roundE (h : List Ev) (level : Int) (l : List Ed) : Bool := decide (0 < l.length) && (List.range l.length).all (roundOk h level l)
theorem roundE_false {h : List Ev} {level : Int} {l : List Ed} {i : Nat} (hi : i < l.length) (hr : roundOk h level l i = false) : roundE h level l = false := by
  unfold roundE
  have : (List.range l.length).all (roundOk h level l) = false := by
    rw [List.all_eq_false]
    exact ⟨i, List.mem_range.2 hi, by simp [hr]⟩
  rw [this, Bool.and_false]
theorem round_c (h : List Ev) (hl : h.length ≤ 140737488355328) (o : Sh.Own) (level : Int) (l : List Ed) (hll : l.length ≤ 140737488355328) (o' : Sh.Own) : PureC Tryz.prog 25 [avH h o, .int .i64 level, avE l o'] (.bool (roundE h level l)) := by
  refine pure_of_dwp Tryz.func25 rfl (by kernel_rfl) (by simp [Tryz.ntmps25]) fun st K hK => ?_
  rw [Tryz.ntmps25]
  refine dwp_of_vk (by kernel_rfl) ?_
  have hst : ∀ (v : Bool) (s : St), v = roundE h level l → St.le st s → ∃ r', AV.sub r' (.bool v) ∧ ∃ x, St.le x s ∧ K r' x := by
    rintro v s rfl hl
    exact fin' (.refl _) hl hK
  simp
  refine lk_loop (α := Nat) (fun i => Env.ofList [(0, avH h o), (1, .int .i64 level), (2, avE l o'), (11, .int .i64 l.length), (12, .int .i64 i)]) (fun _ => st) (fun i => i ≤ l.length ∧ ∀ j, j < i → roundOk h level l j = true) (fun i => l.length - i) 0 (by kernel_rfl) ⟨Nat.zero_le _, fun _ hj => absurd hj (by omega)⟩ (Env.sub_ofList (by simp)) (.refl _) ?_
  rintro i ⟨hi, hno⟩ R hR hX
  simp
  by_cases hlt : i < l.length
  · have hw : IntKind.i64.wrap (↑i + 1) = ↑i + 1 := wrap_i64 (by omega) (by omega)
    simp [hlt]
    refine lk_draw mixed [[], [], [], [], [], [], [], [], [], [], [], [], [], [], [(44, .tmp 17), (44, .tmp 25)], [(44, .tmp 17), (44, .tmp 25), (44, .tmp 8)]] [] (by kernel_rfl) ?_
    have hne : l ≠ [] := by rintro rfl; simp at hlt
    obtain ⟨m, hm⟩ : ∃ m, m = (i + 1) % l.length := ⟨_, rfl⟩
    have hml : m < l.length := by rw [hm]; exact Nat.mod_lt _ (by omega)
    have hmod : ((i : Int) + 1).tmod l.length = (m : Nat) := by rw [hm]; exact Int.ofNat_tmod (i + 1) l.length
    have hdi : l.getD i default = l[i] := by simp [hlt]
    have hdm : nxt l i = l[m] := by unfold nxt; rw [← hm]; simp [hml]
    have hok : roundOk h level l i = (holdsE h l[i] && (decide (l[i].to = l[m].frm) && !(decide (level = 2) && (decide (l[i].kind = 3) && decide (l[m].kind = 3))))) := by
      unfold roundOk; rw [hdi, hdm]
    simp [hlt, hw, hne, hmod, hml]
    refine tkNew_intro fun x hx => ?_
    simp
    refine tkNew_intro fun y hy => ?_
    simp only [upd_none_iff] at hy
    obtain ⟨hyx, hy⟩ := hy
    have hxy := Ne.symm hyx
    simp [addrOf, apartAt, szOf, hyx, hxy]
    have hle : ∀ A B C D, St.le st ((((st.upd x A).upd y B).upd x C).upd y D) := fun _ _ _ _ => by repeat first | exact .refl _ | refine le_right (by assumption) ?_
    refine callK_pure (holds_c h hl o l[i]) ?_
    have yes : roundOk h level l i = true → ∀ j, j < i + 1 → roundOk h level l j = true := by
      intro hr j hj
      by_cases e : j = i
      · subst e; exact hr
      · exact hno j (by omega)
    cases c1 : holdsE h l[i]
    · simp
      refine hX .ret _ _ (by simp) ?_
      simp [Tryz.results25]
      exact hst _ _ (by rw [roundE_false hlt (by rw [hok, c1]; simp)]) (hle _ _ _ _)
    simp [hxy, hyx]
    by_cases c2 : l[i].to = l[m].frm
    · simp [c2, hxy, hyx]
      by_cases c3 : level = 2
      · by_cases c4 : l[i].kind = 3
        · by_cases c5 : l[m].kind = 3
          · simp [c3, c4, c5, hxy, hyx]
            refine hX .ret _ _ (by simp) ?_
            simp [Tryz.results25]
            exact hst _ _ (by rw [roundE_false hlt (by rw [hok]; simp [c1, c2, c3, c4, c5])]) (hle _ _ _ _)
          · simp [c3, c4, c5, hxy, hyx]
            exact hR (i + 1) _ _ ⟨hlt, yes (by rw [hok]; simp [c1, c2, c3, c4, c5])⟩ (by omega) (Env.sub_ofList (by simp [hw, c3])) (hle _ _ _ _)
        · simp [c3, c4, hxy, hyx]
          exact hR (i + 1) _ _ ⟨hlt, yes (by rw [hok]; simp [c1, c2, c3, c4])⟩ (by omega) (Env.sub_ofList (by simp [hw, c3])) (hle _ _ _ _)
      · simp [c3, hxy, hyx]
        exact hR (i + 1) _ _ ⟨hlt, yes (by rw [hok]; simp [c1, c2, c3])⟩ (by omega) (Env.sub_ofList (by simp [hw])) (hle _ _ _ _)
    · simp [c2, hxy, hyx]
      refine hX .ret _ _ (by simp) ?_
      simp [Tryz.results25]
      exact hst _ _ (by rw [roundE_false hlt (by rw [hok]; simp [c1, c2])]) (hle _ _ _ _)
  · simp [hlt]
    refine hX _ _ _ (by simp) ?_
    have : i = l.length := by omega
    subst this
    simp [Tryz.results25]
    refine hst _ _ ?_ (.refl _)
    unfold roundE
    have : (List.range l.length).all (roundOk h level l) = true := by
      rw [List.all_eq_true]
      intro j hj
      exact hno j (List.mem_range.1 hj)
    rw [this, Bool.and_true]
end Go.Proofs
