import Derived.Test.YtdhmbpipjdapfaaGreatShK11
namespace Go.Proofs
open Go Go.Sh
set_option maxRecDepth 20000
@[simp] theorem ti44 : tiOf Tryz.prog 44 = some ⟨.struct [(0, 3), (1, 3), (2, 3), (3, 3), (4, 3)], 5, 40, [.int .i64 0, .int .i64 0, .int .i64 0, .int .i64 0, .int .i64 0]⟩ := by kernel_rfl
@[simp] theorem ti36 : tiOf Tryz.prog 36 = some ⟨.slice 44, 1, 24, [.list 0 [] .clip]⟩ := by kernel_rfl
theorem tkNew_intro {P : Program} {n : Nat} {cr : List (Nat × AV)} {t : TypeId} {cs : List AV} {d : Option Nat} {l : List AOp} {K : Env → St → Prop} {env : Env} {st : St} (h : ∀ id, st id = none → vcT P n cr l (env.put d (.box id 0)) (st.upd id (.cells t cs)) K) : tkNew P n cr t cs d l K env st := h
structure Ed where
  kind : Int
  frm : Int
  to : Int
  i : Int
  j : Int
  deriving Inhabited, DecidableEq
@[simp] def encEd (e : Ed) : List AV := [.int .i64 e.kind, .int .i64 e.frm, .int .i64 e.to, .int .i64 e.i, .int .i64 e.j]
def holdsE (h : List Ev) (e : Ed) : Bool :=
  if (aheadE h e.frm e.to).1 = false ∨ e.frm = e.to ∨ e.i < 0 ∨ h.length ≤ e.i ∨ e.j < 0 ∨ h.length ≤ e.j then false
  else if (h.getD e.i.toNat default).key ≠ (h.getD e.j.toNat default).key then false
  else if e.kind = 1 then isE h e.i 3 e.frm && (isE h e.j 3 e.to && (aheadE h e.frm e.to).2)
  else if e.kind = 2 then isE h e.i 3 e.frm && (isE h e.j 2 e.to && decide ((h.getD e.i.toNat default).val = (h.getD e.j.toNat default).val))
  else if e.kind = 3 then isE h e.i 2 e.frm && (isE h e.j 3 e.to && overE h (h.getD e.i.toNat default) e.to)
  else false
theorem holds_c (h : List Ev) (hl : h.length ≤ 140737488355328) (o : Sh.Own) (e : Ed) : PureC Tryz.prog 60 [avH h o, .agg (encEd e)] (.bool (holdsE h e)) := by
  refine pure_of_dwp Tryz.func60 rfl (by kernel_rfl) (by simp [Tryz.ntmps60]) fun st K hK => ?_
  rw [Tryz.ntmps60]
  refine dwp_of_vk (by kernel_rfl) ?_
  have hst : ∀ (v : Bool) (s : St), v = holdsE h e → St.le st s → ∃ r', AV.sub r' (.bool v) ∧ ∃ x, St.le x s ∧ K r' x := by
    rintro v s rfl hl
    exact fin' (.refl _) hl hK
  simp
  refine newK_intro fun a ha => ?_
  simp
  refine callK_pure (ahead_c h hl o e.frm e.to) ?_
  have hle : ∀ A, St.le st (st.upd a A) := fun A => le_right ha (.refl _)
  cases hA : (aheadE h e.frm e.to).1
  · simp [hA, Tryz.results60]
    exact hst _ _ (by simp [holdsE, hA]) (hle _)
  by_cases h1 : e.frm = e.to
  · simp [hA, h1, Tryz.results60]
    exact hst _ _ (by simp [holdsE, h1]) (hle _)
  by_cases h2 : e.i < 0
  · simp [hA, h1, h2, Tryz.results60]
    exact hst _ _ (by simp [holdsE, h2]) (hle _)
  by_cases h3 : (h.length : Int) ≤ e.i
  · simp [hA, h1, h2, h3, Tryz.results60]
    exact hst _ _ (by simp [holdsE, h3]) (hle _)
  by_cases h4 : e.j < 0
  · simp [hA, h1, h2, h3, h4, Tryz.results60]
    exact hst _ _ (by simp [holdsE, h4]) (hle _)
  by_cases h5 : (h.length : Int) ≤ e.j
  · simp [hA, h1, h2, h3, h4, h5, Tryz.results60]
    exact hst _ _ (by simp [holdsE, h5]) (hle _)
  obtain ⟨i, hi⟩ : ∃ i : Nat, e.i = i := ⟨e.i.toNat, by omega⟩
  obtain ⟨j, hj⟩ : ∃ j : Nat, e.j = j := ⟨e.j.toNat, by omega⟩
  have hin : i < h.length := by omega
  have hjn : j < h.length := by omega
  have hdi : h.getD i default = h[i] := by simp [hin]
  have hdj : h.getD j default = h[j] := by simp [hjn]
  have hh : holdsE h e = if h[i].key ≠ h[j].key then false
      else if e.kind = 1 then isE h i 3 e.frm && (isE h j 3 e.to && (aheadE h e.frm e.to).2)
      else if e.kind = 2 then isE h i 3 e.frm && (isE h j 2 e.to && decide (h[i].val = h[j].val))
      else if e.kind = 3 then isE h i 2 e.frm && (isE h j 3 e.to && overE h h[i] e.to)
      else false := by
    unfold holdsE
    rw [if_neg (by simp [hA, h1, h2, h3, h4, h5] <;> omega), hi, hj, Int.toNat_natCast, Int.toNat_natCast, hdi, hdj]
  rw [hh] at hst
  rw [hi] at h2 h3
  rw [hj] at h4 h5
  simp [hA, h1, hi, hj, h2, h3, h4, h5]
  refine lk_draw mixed [[], [], [], [], [], [], [], [], [], [], [], [], [(3, .tmp 52), (30, .tmp 54), (3, .tmp 57), (30, .tmp 59)], [(3, .tmp 52), (30, .tmp 54), (3, .tmp 57), (30, .tmp 59), (30, .tmp 7)]] [] (by kernel_rfl) ?_
  simp [hin, hjn]
  refine tkNew_intro fun x hx => ?_
  simp
  refine tkNew_intro fun y hy => ?_
  simp only [upd_none_iff] at hx hy
  obtain ⟨hxa, hx⟩ := hx
  obtain ⟨hyx, hya, hy⟩ := hy
  have hax := Ne.symm hxa
  have hay := Ne.symm hya
  have hxy := Ne.symm hyx
  simp [addrOf, apartAt, szOf, hax, hay, hxa, hya, hyx, hxy]
  have hle2 : ∀ A B C D E, St.le st (((((st.upd a A).upd x B).upd y C).upd x D).upd y E) := fun _ _ _ _ _ => by repeat first | exact .refl _ | refine le_right (by assumption) ?_
  by_cases hk : h[i].key = h[j].key
  · rw [if_neg (by simp [hk])] at hst
    simp [hk, hax, hay, hxa, hya, hyx, hxy]
    by_cases k1 : e.kind = 1
    · rw [if_pos k1] at hst
      simp [k1, hax, hay, hxa, hya, hyx, hxy]
      refine callK_pure (is_c h o i 3 e.frm) ?_
      cases c1 : isE h i 3 e.frm
      · simp [hax, hay, Tryz.results60]
        exact hst _ _ (by simp [c1]) (hle2 _ _ _ _ _)
      · simp [hax, hay]
        refine callK_pure (is_c h o j 3 e.to) ?_
        cases c2 : isE h j 3 e.to
        · simp [hax, hay, Tryz.results60]
          exact hst _ _ (by simp [c1, c2]) (hle2 _ _ _ _ _)
        · simp [hax, hay, Tryz.results60]
          exact hst _ _ (by simp [c1, c2]) (hle2 _ _ _ _ _)
    · rw [if_neg k1] at hst
      by_cases k2 : e.kind = 2
      · rw [if_pos k2] at hst
        simp [k2, hax, hay, hxa, hya, hyx, hxy]
        refine callK_pure (is_c h o i 3 e.frm) ?_
        cases c1 : isE h i 3 e.frm
        · simp [hax, hay, Tryz.results60]
          exact hst _ _ (by simp [c1]) (hle2 _ _ _ _ _)
        · simp [hax, hay]
          refine callK_pure (is_c h o j 2 e.to) ?_
          cases c2 : isE h j 2 e.to
          · simp [hax, hay, Tryz.results60]
            exact hst _ _ (by simp [c1, c2]) (hle2 _ _ _ _ _)
          · simp [hax, hay, hxy, hyx, Tryz.results60]
            exact hst _ _ (by simp [c1, c2]) (hle2 _ _ _ _ _)
      · rw [if_neg k2] at hst
        by_cases k3 : e.kind = 3
        · rw [if_pos k3] at hst
          simp [k3, hax, hay, hxa, hya, hyx, hxy]
          refine callK_pure (is_c h o i 2 e.frm) ?_
          cases c1 : isE h i 2 e.frm
          · simp [hax, hay, Tryz.results60]
            exact hst _ _ (by simp [c1]) (hle2 _ _ _ _ _)
          · simp [hax, hay]
            refine callK_pure (is_c h o j 3 e.to) ?_
            cases c2 : isE h j 3 e.to
            · simp [hax, hay, Tryz.results60]
              exact hst _ _ (by simp [c1, c2]) (hle2 _ _ _ _ _)
            · simp [hax, hay, hxy, hyx]
              have ho := eover_c h hl o h[i] e.to
              refine callK_pure (r := .bool (overE h h[i] e.to)) (by simpa [hk] using ho) ?_
              simp [Tryz.results60]
              exact hst _ _ (by simp [c1, c2]) (hle2 _ _ _ _ _)
        · rw [if_neg k3] at hst
          simp [k1, k2, k3, Tryz.results60]
          exact hst _ _ rfl (hle2 _ _ _ _ _)
  · rw [if_pos hk] at hst
    simp [hk, hax, hay, hxa, hya, hyx, hxy, Tryz.results60]
    exact hst _ _ rfl (hle2 _ _ _ _ _)
end Go.Proofs
