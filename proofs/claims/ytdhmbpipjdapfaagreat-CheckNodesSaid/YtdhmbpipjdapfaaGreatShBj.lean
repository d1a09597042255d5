import Derived.Test.YtdhmbpipjdapfaaGreatShBi
set_option linter.unusedSimpArgs false
set_option linter.unusedVariables false

namespace Go.Proofs
open Go Go.Sh
set_option maxRecDepth 20000
@[simp] theorem ti44 : tiOf Tryz.prog 44 = some ⟨.struct [(0, 3), (1, 3), (2, 3), (3, 3), (4, 3)], 5, 40, [.int .i64 0, .int .i64 0, .int .i64 0, .int .i64 0, .int .i64 0]⟩ := by kernel_rfl
@[simp] theorem ti36 : tiOf Tryz.prog 36 = some ⟨.slice 44, 1, 24, [.list 0 [] .clip]⟩ := by kernel_rfl
theorem tkNew_intro {P : Program} {n : Nat} {cr : List (Nat × AV)} {t : TypeId} {cs : List AV} {d : Option Nat} {l : List AOp} {K : Env → St → Prop} {env : Env} {st : St} (h : ∀ id, st id = none → vcT P n cr l (env.put d (.box id 0)) (st.upd id (.cells t cs)) K) : tkNew P n cr t cs d l K env st := h
structure Ed where
  kind : Int
  frm : Int
  to : Int
  i : Int
  j : Int
  deriving Inhabited, DecidableEq
@[simp] def encEd (e : Ed) : List AV := [.int .i64 e.kind, .int .i64 e.frm, .int .i64 e.to, .int .i64 e.i, .int .i64 e.j]
def holdsE (h : List Ev) (e : Ed) : Bool :=
  if (aheadE h e.frm e.to).1 = false ∨ e.frm = e.to ∨ e.i < 0 ∨ h.length ≤ e.i ∨ e.j < 0 ∨ h.length ≤ e.j then false
  else if (h.getD e.i.toNat default).key ≠ (h.getD e.j.toNat default).key then false
  else if e.kind = 1 then isE h e.i 3 e.frm && (isE h e.j 3 e.to && (aheadE h e.frm e.to).2)
  else if e.kind = 2 then isE h e.i 3 e.frm && (isE h e.j 2 e.to && decide ((h.getD e.i.toNat default).val = (h.getD e.j.toNat default).val))
  else if e.kind = 3 then isE h e.i 2 e.frm && (isE h e.j 3 e.to && overE h (h.getD e.i.toNat default) e.to)
  else false
theorem holds_c (h : List Ev) (hl : h.length ≤ 140737488355328) (o : Sh.Own) (e : Ed) : PureC Tryz.prog 60 [avH h o, .agg (encEd e)] (.bool (holdsE h e)) := by
  refine pure_of_dwp Tryz.func60 rfl (by kernel_rfl) (by simp [Tryz.ntmps60]) fun st K hK => ?_
  rw [Tryz.ntmps60]
  refine dwp_of_vk (by kernel_rfl) ?_
  have hst : ∀ (v : Bool) (s : St), v = holdsE h e → St.le st s → ∃ r', AV.sub r' (.bool v) ∧ ∃ x, St.le x s ∧ K r' x := by
    rintro v s rfl hl
    exact fin' (.refl _) hl hK
  simp
  refine newK_intro fun a ha => ?_
  simp
  refine callK_pure (ahead_c h hl o e.frm e.to) ?_
  have hle : ∀ A, St.le st (st.upd a A) := fun A => le_right ha (.refl _)
  cases hA : (aheadE h e.frm e.to).1
  · simp [hA, Tryz.results60]
    exact hst _ _ (by simp [holdsE, hA]) (hle _)
  by_cases h1 : e.frm = e.to
  · simp [hA, h1, Tryz.results60]
    exact hst _ _ (by simp [holdsE, h1]) (hle _)
  by_cases h2 : e.i < 0
  · simp [hA, h1, h2, Tryz.results60]
    exact hst _ _ (by simp [holdsE, h2]) (hle _)
  by_cases h3 : (h.length : Int) ≤ e.i
  · simp [hA, h1, h2, h3, Tryz.results60]
    exact hst _ _ (by simp [holdsE, h3]) (hle _)
  by_cases h4 : e.j < 0
  · simp [hA, h1, h2, h3, h4, Tryz.results60]
    exact hst _ _ (by simp [holdsE, h4]) (hle _)
  by_cases h5 : (h.length : Int) ≤ e.j
  · simp [hA, h1, h2, h3, h4, h5, Tryz.results60]
    exact hst _ _ (by simp [holdsE, h5]) (hle _)
  obtain ⟨i, hi⟩ : ∃ i : Nat, e.i = i := ⟨e.i.toNat, by omega⟩
  obtain ⟨j, hj⟩ : ∃ j : Nat, e.j = j := ⟨e.j.toNat, by omega⟩
  have hin : i < h.length := by omega
  have hjn : j < h.length := by omega
  have hdi : h.getD i default = h[i] := by simp [hin]
  have hdj : h.getD j default = h[j] := by simp [hjn]
  have hh : holdsE h e = if h[i].key ≠ h[j].key then false
      else if e.kind = 1 then isE h i 3 e.frm && (isE h j 3 e.to && (aheadE h e.frm e.to).2)
      else if e.kind = 2 then isE h i 3 e.frm && (isE h j 2 e.to && decide (h[i].val = h[j].val))
      else if e.kind = 3 then isE h i 2 e.frm && (isE h j 3 e.to && overE h h[i] e.to)
      else false := by
    unfold holdsE
    rw [if_neg (by simp [hA, h1, h2, h3, h4, h5] <;> omega), hi, hj, Int.toNat_natCast, Int.toNat_natCast, hdi, hdj]
  rw [hh] at hst
  rw [hi] at h2 h3
  rw [hj] at h4 h5
  simp [hA, h1, hi, hj, h2, h3, h4, h5]
  refine lk_draw mixed [[], [], [], [], [], [], [], [], [], [], [], [], [(3, .tmp 52), (30, .tmp 54), (3, .tmp 57), (30, .tmp 59)], [(3, .tmp 52), (30, .tmp 54), (3, .tmp 57), (30, .tmp 59), (30, .tmp 7)]] [] (by kernel_rfl) ?_
  simp [hin, hjn]
  refine tkNew_intro fun x hx => ?_
  simp
  refine tkNew_intro fun y hy => ?_
  simp only [upd_none_iff] at hx hy
  obtain ⟨hxa, hx⟩ := hx
  obtain ⟨hyx, hya, hy⟩ := hy
  have hax := Ne.symm hxa
  have hay := Ne.symm hya
  have hxy := Ne.symm hyx
  simp [addrOf, apartAt, szOf, hax, hay, hxa, hya, hyx, hxy]
  have hle2 : ∀ A B C D E, St.le st (((((st.upd a A).upd x B).upd y C).upd x D).upd y E) := fun _ _ _ _ _ => by repeat first | exact .refl _ | refine le_right (by assumption) ?_
  by_cases hk : h[i].key = h[j].key
  · rw [if_neg (by simp [hk])] at hst
    simp [hk, hax, hay, hxa, hya, hyx, hxy]
    by_cases k1 : e.kind = 1
    · rw [if_pos k1] at hst
      simp [k1, hax, hay, hxa, hya, hyx, hxy]
      refine callK_pure (is_c h o i 3 e.frm) ?_
      cases c1 : isE h i 3 e.frm
      · simp [hax, hay, Tryz.results60]
        exact hst _ _ (by simp [c1]) (hle2 _ _ _ _ _)
      · simp [hax, hay]
        refine callK_pure (is_c h o j 3 e.to) ?_
        cases c2 : isE h j 3 e.to
        · simp [hax, hay, Tryz.results60]
          exact hst _ _ (by simp [c1, c2]) (hle2 _ _ _ _ _)
        · simp [hax, hay, Tryz.results60]
          exact hst _ _ (by simp [c1, c2]) (hle2 _ _ _ _ _)
    · rw [if_neg k1] at hst
      by_cases k2 : e.kind = 2
      · rw [if_pos k2] at hst
        simp [k2, hax, hay, hxa, hya, hyx, hxy]
        refine callK_pure (is_c h o i 3 e.frm) ?_
        cases c1 : isE h i 3 e.frm
        · simp [hax, hay, Tryz.results60]
          exact hst _ _ (by simp [c1]) (hle2 _ _ _ _ _)
        · simp [hax, hay]
          refine callK_pure (is_c h o j 2 e.to) ?_
          cases c2 : isE h j 2 e.to
          · simp [hax, hay, Tryz.results60]
            exact hst _ _ (by simp [c1, c2]) (hle2 _ _ _ _ _)
          · simp [hax, hay, hxy, hyx, Tryz.results60]
            exact hst _ _ (by simp [c1, c2]) (hle2 _ _ _ _ _)
      · rw [if_neg k2] at hst
        by_cases k3 : e.kind = 3
        · rw [if_pos k3] at hst
          simp [k3, hax, hay, hxa, hya, hyx, hxy]
          refine callK_pure (is_c h o i 2 e.frm) ?_
          cases c1 : isE h i 2 e.frm
          · simp [hax, hay, Tryz.results60]
            exact hst _ _ (by simp [c1]) (hle2 _ _ _ _ _)
          · simp [hax, hay]
            refine callK_pure (is_c h o j 3 e.to) ?_
            cases c2 : isE h j 3 e.to
            · simp [hax, hay, Tryz.results60]
              exact hst _ _ (by simp [c1, c2]) (hle2 _ _ _ _ _)
            · simp [hax, hay, hxy, hyx]
              have ho := eover_c h hl o h[i] e.to
              refine callK_pure (r := .bool (overE h h[i] e.to)) (by simpa [hk] using ho) ?_
              simp [Tryz.results60]
              exact hst _ _ (by simp [c1, c2]) (hle2 _ _ _ _ _)
        · rw [if_neg k3] at hst
          simp [k1, k2, k3, Tryz.results60]
          exact hst _ _ rfl (hle2 _ _ _ _ _)
  · rw [if_pos hk] at hst
    simp [hk, hax, hay, hxa, hya, hyx, hxy, Tryz.results60]
    exact hst _ _ rfl (hle2 _ _ _ _ _)
end Go.Proofs

namespace Go.Proofs
open Go Go.Sh
set_option maxRecDepth 20000
abbrev avE (l : List Ed) (o : Sh.Own) : AV := .list 5 (l.map encEd) o
/-- The next one, round. -/
def nxt (l : List Ed) (i : Nat) : Ed := l.getD ((i + 1) % l.length) default
def roundOk (h : List Ev) (level : Int) (l : List Ed) (i : Nat) : Bool :=
  holdsE h (l.getD i default) && (decide ((l.getD i default).to = (nxt l i).frm) && !(decide (level = 2) && (decide ((l.getD i default).kind = 3) && decide ((nxt l i).kind = 3))))
def roundE (h : List Ev) (level : Int) (l : List Ed) : Bool := decide (0 < l.length) && (List.range l.length).all (roundOk h level l)
theorem roundE_false {h : List Ev} {level : Int} {l : List Ed} {i : Nat} (hi : i < l.length) (hr : roundOk h level l i = false) : roundE h level l = false := by
  unfold roundE
  have : (List.range l.length).all (roundOk h level l) = false := by
    rw [List.all_eq_false]
    exact ⟨i, List.mem_range.2 hi, by simp [hr]⟩
  rw [this, Bool.and_false]
theorem round_c (h : List Ev) (hl : h.length ≤ 140737488355328) (o : Sh.Own) (level : Int) (l : List Ed) (hll : l.length ≤ 140737488355328) (o' : Sh.Own) : PureC Tryz.prog 25 [avH h o, .int .i64 level, avE l o'] (.bool (roundE h level l)) := by
  refine pure_of_dwp Tryz.func25 rfl (by kernel_rfl) (by simp [Tryz.ntmps25]) fun st K hK => ?_
  rw [Tryz.ntmps25]
  refine dwp_of_vk (by kernel_rfl) ?_
  have hst : ∀ (v : Bool) (s : St), v = roundE h level l → St.le st s → ∃ r', AV.sub r' (.bool v) ∧ ∃ x, St.le x s ∧ K r' x := by
    rintro v s rfl hl
    exact fin' (.refl _) hl hK
  simp
  refine lk_loop (α := Nat) (fun i => Env.ofList [(0, avH h o), (1, .int .i64 level), (2, avE l o'), (11, .int .i64 l.length), (12, .int .i64 i)]) (fun _ => st) (fun i => i ≤ l.length ∧ ∀ j, j < i → roundOk h level l j = true) (fun i => l.length - i) 0 (by kernel_rfl) ⟨Nat.zero_le _, fun _ hj => absurd hj (by omega)⟩ (Env.sub_ofList (by simp)) (.refl _) ?_
  rintro i ⟨hi, hno⟩ R hR hX
  simp
  by_cases hlt : i < l.length
  · have hw : IntKind.i64.wrap (↑i + 1) = ↑i + 1 := wrap_i64 (by omega) (by omega)
    simp [hlt]
    refine lk_draw mixed [[], [], [], [], [], [], [], [], [], [], [], [], [], [], [(44, .tmp 17), (44, .tmp 25)], [(44, .tmp 17), (44, .tmp 25), (44, .tmp 8)]] [] (by kernel_rfl) ?_
    have hne : l ≠ [] := by rintro rfl; simp at hlt
    obtain ⟨m, hm⟩ : ∃ m, m = (i + 1) % l.length := ⟨_, rfl⟩
    have hml : m < l.length := by rw [hm]; exact Nat.mod_lt _ (by omega)
    have hmod : ((i : Int) + 1).tmod l.length = (m : Nat) := by rw [hm]; exact Int.ofNat_tmod (i + 1) l.length
    have hdi : l.getD i default = l[i] := by simp [hlt]
    have hdm : nxt l i = l[m] := by unfold nxt; rw [← hm]; simp [hml]
    have hok : roundOk h level l i = (holdsE h l[i] && (decide (l[i].to = l[m].frm) && !(decide (level = 2) && (decide (l[i].kind = 3) && decide (l[m].kind = 3))))) := by
      unfold roundOk; rw [hdi, hdm]
    simp [hlt, hw, hne, hmod, hml]
    refine tkNew_intro fun x hx => ?_
    simp
    refine tkNew_intro fun y hy => ?_
    simp only [upd_none_iff] at hy
    obtain ⟨hyx, hy⟩ := hy
    have hxy := Ne.symm hyx
    simp [addrOf, apartAt, szOf, hyx, hxy]
    have hle : ∀ A B C D, St.le st ((((st.upd x A).upd y B).upd x C).upd y D) := fun _ _ _ _ => by repeat first | exact .refl _ | refine le_right (by assumption) ?_
    refine callK_pure (holds_c h hl o l[i]) ?_
    have yes : roundOk h level l i = true → ∀ j, j < i + 1 → roundOk h level l j = true := by
      intro hr j hj
      by_cases e : j = i
      · subst e; exact hr
      · exact hno j (by omega)
    cases c1 : holdsE h l[i]
    · simp
      refine hX .ret _ _ (by simp) ?_
      simp [Tryz.results25]
      exact hst _ _ (by rw [roundE_false hlt (by rw [hok, c1]; simp)]) (hle _ _ _ _)
    simp [hxy, hyx]
    by_cases c2 : l[i].to = l[m].frm
    · simp [c2, hxy, hyx]
      by_cases c3 : level = 2
      · by_cases c4 : l[i].kind = 3
        · by_cases c5 : l[m].kind = 3
          · simp [c3, c4, c5, hxy, hyx]
            refine hX .ret _ _ (by simp) ?_
            simp [Tryz.results25]
            exact hst _ _ (by rw [roundE_false hlt (by rw [hok]; simp [c1, c2, c3, c4, c5])]) (hle _ _ _ _)
          · simp [c3, c4, c5, hxy, hyx]
            exact hR (i + 1) _ _ ⟨hlt, yes (by rw [hok]; simp [c1, c2, c3, c4, c5])⟩ (by omega) (Env.sub_ofList (by simp [hw, c3])) (hle _ _ _ _)
        · simp [c3, c4, hxy, hyx]
          exact hR (i + 1) _ _ ⟨hlt, yes (by rw [hok]; simp [c1, c2, c3, c4])⟩ (by omega) (Env.sub_ofList (by simp [hw, c3])) (hle _ _ _ _)
      · simp [c3, hxy, hyx]
        exact hR (i + 1) _ _ ⟨hlt, yes (by rw [hok]; simp [c1, c2, c3])⟩ (by omega) (Env.sub_ofList (by simp [hw])) (hle _ _ _ _)
    · simp [c2, hxy, hyx]
      refine hX .ret _ _ (by simp) ?_
      simp [Tryz.results25]
      exact hst _ _ (by rw [roundE_false hlt (by rw [hok]; simp [c1, c2])]) (hle _ _ _ _)
  · simp [hlt]
    refine hX _ _ _ (by simp) ?_
    have : i = l.length := by omega
    subst this
    simp [Tryz.results25]
    refine hst _ _ ?_ (.refl _)
    unfold roundE
    have : (List.range l.length).all (roundOk h level l) = true := by
      rw [List.all_eq_true]
      intro j hj
      exact hno j (List.mem_range.1 hj)
    rw [this, Bool.and_true]
end Go.Proofs

namespace Go.Proofs
open Go Go.Sh
set_option maxRecDepth 20000
@[simp] theorem ti81 : tiOf Tryz.prog 81 = some ⟨.slice 35, 1, 24, [.list 0 [] .clip]⟩ := by kernel_rfl
@[simp] theorem ef35 : eqFlat Tryz.prog 35 = some [.int, .int, .int] := by kernel_rfl
abbrev avB (l : List Bd) (o : Sh.Own) : AV := .list 3 (l.map encBd) o
theorem owns_le {st0 st : St} {e sz n : Nat} {o : Sh.Own} (h : Owns st0 e sz n o st) : St.le st0 st := by
  cases o with
  | no => exact h.elim
  | clip => simp only [Owns] at h; subst h; exact .refl _
  | op id => obtain ⟨h1, rfl⟩ := h; exact le_upd h1 _
theorem owns_upd {st0 s : St} {e sz n : Nat} {o : Sh.Own} (h : Owns st0 e sz n o s) (x : Nat) (A : AObj) (hx : ∀ id, o = .op id → x ≠ id) : Owns (st0.upd x A) e sz n o (s.upd x A) := by
  cases o with
  | no => exact h.elim
  | clip => simp only [Owns] at h ⊢; rw [h]
  | op id =>
    obtain ⟨h1, rfl⟩ := h
    have hne := hx id rfl
    refine ⟨by simp [Ne.symm hne, h1], ?_⟩
    funext j
    simp only [St.upd]
    by_cases h1 : j = x
    · subst h1; simp [hne]
    · by_cases h2 : j = id
      · subst h2; simp; exact fun e => absurd e.symm hne
      · simp [h1, h2]
theorem owns_fresh {st0 s : St} {e sz n : Nat} {o : Sh.Own} (h : Owns st0 e sz n o s) {x : Nat} (hx : s x = none) : (∀ id, o = .op id → x ≠ id) ∧ st0 x = none := by
  cases o with
  | no => exact h.elim
  | clip => simp only [Owns] at h; subst h; exact ⟨fun _ e => (by cases e), hx⟩
  | op id =>
    obtain ⟨h1, rfl⟩ := h
    rw [upd_none_iff] at hx
    exact ⟨fun i e => (by cases e; exact hx.1), hx.2⟩
/-- All that are wrong, up to a place. -/
def badTo (h : List Ev) : Nat → List Bd
  | 0 => []
  | n + 1 => if atE h n ≠ ⟨0, 0, 0⟩ then badTo h n ++ [atE h n] else badTo h n
def badAll (h : List Ev) : List Bd := badTo h h.length
theorem badTo_length (h : List Ev) : ∀ n, (badTo h n).length ≤ n
  | 0 => by simp [badTo]
  | n + 1 => by
    have := badTo_length h n
    unfold badTo
    split <;> simp <;> omega
theorem all_c (h : List Ev) (hl : h.length ≤ 1099511627776) (o : Sh.Own) : PureC Tryz.prog 72 [avH h o] (avB (badAll h) .no) := by
  refine pure_of_dwp Tryz.func72 rfl (by kernel_rfl) (by simp [Tryz.ntmps72]) fun st K hK => ?_
  rw [Tryz.ntmps72]
  refine dwp_of_vk (by kernel_rfl) ?_
  simp
  refine lk_loop (α := Nat × Nat × Sh.Own × St) (fun x => Env.ofList [(0, avH h o), (3, .list x.2.1 ((badTo h x.1).map encBd) x.2.2.1), (7, .int .i64 h.length), (8, .int .i64 x.1)]) (fun x => x.2.2.2)
    (fun x => x.1 ≤ h.length ∧ (badTo h x.1 = [] ∨ x.2.1 = 3) ∧ ∃ st0, St.le st st0 ∧ Owns st0 35 3 (badTo h x.1).length x.2.2.1 x.2.2.2) (fun x => h.length - x.1) (0, 0, .clip, st) (by kernel_rfl) ⟨Nat.zero_le _, .inl rfl, st, .refl _, rfl⟩ (Env.sub_ofList (by simp [badTo])) (.refl _) ?_
  rintro ⟨i, sz, ow, s⟩ ⟨hi, hsz, st0, hle0, hown⟩ R hR hX
  simp only at hi hsz hown
  simp
  by_cases hlt : i < h.length
  · have hw : IntKind.i64.wrap (↑i + 1) = ↑i + 1 := wrap_i64 (by omega) (by omega)
    simp [hlt]
    refine callK_pure (at_c h (by omega) o i) ?_
    simp
    refine newK_intro fun x hx => ?_
    simp
    obtain ⟨hxo, hx0⟩ := owns_fresh hown hx
    have hbl := badTo_length h i
    by_cases hz : atE h i = ⟨0, 0, 0⟩
    · simp [hz]
      have hb : badTo h (i + 1) = badTo h i := by simp only [badTo]; rw [if_neg (by simp [hz])]
      refine hR (i + 1, sz, ow, s) _ _ ⟨hlt, by rw [hb]; exact hsz, st0, hle0, by rw [hb]; exact hown⟩ (by simp; omega) (Env.sub_ofList (by simp [hw, hb])) (le_right hx (le_right hx (.refl _)))
    · have hb : badTo h (i + 1) = badTo h i ++ [atE h i] := by simp only [badTo]; rw [if_pos hz]
      have hnz : (!decide ((atE h i).kind = 0) || (!decide ((atE h i).i = 0) || !decide ((atE h i).j = 0))) = true := by
        rcases hat : atE h i with ⟨k, a, b⟩
        rw [hat] at hz
        simp only [Bd.mk.injEq] at hz
        by_cases k0 : k = 0 <;> by_cases a0 : a = 0 <;> by_cases b0 : b = 0 <;> simp_all
      rw [hnz]
      simp
      have hbytes : ((badTo h i).length + 1) * 24 ≤ 140737488355328 := by omega
      have hlen : (badTo h i).length ≤ 9223372036854775806 := by omega
      simp [hsz, hbytes, hlen]
      refine appK_intro _ (by rw [List.length_map]; exact owns_upd (owns_upd hown x _ hxo) x _ hxo) fun o' s' ho => ?_
      simp
      refine hR (i + 1, 3, o', s') _ _ ⟨hlt, .inr rfl, _, ?_, by rw [hb]; simpa using ho⟩ (by simp; omega) (Env.sub_ofList (by simp [hw, hb])) (.refl _)
      exact fun j y e => le_right hx0 (le_right hx0 (.refl _)) j y (hle0 j y e)
  · simp [hlt]
    refine hX _ _ _ (by simp) ?_
    have : i = h.length := by omega
    subst this
    simp [Tryz.results72]
    have hsub : AV.sub (avB (badAll h) .no) (.list sz ((badTo h h.length).map encBd) ow) := by
      rcases hsz with he | rfl
      · unfold badAll; rw [he]; exact AV.sub.nil _ _ _ _ (.inl rfl)
      · exact AV.sub.list _ _ _
    exact fin' hsub (fun j y e => owns_le hown j y (hle0 j y e)) hK
end Go.Proofs

namespace Go.Proofs
open Go Go.Sh
set_option maxRecDepth 20000
@[simp] theorem ti38 : tiOf Tryz.prog 38 = some ⟨.struct [(0, 3), (1, 4), (2, 33), (3, 35), (6, 36)], 7, 88, [.int .i64 0, .bool false, .list 0 [] .clip, .int .i64 0, .int .i64 0, .int .i64 0, .list 0 [] .clip]⟩ := by kernel_rfl
@[simp] theorem ti33 : tiOf Tryz.prog 33 = some ⟨.slice 3, 1, 24, [.list 0 [] .clip]⟩ := by kernel_rfl
structure Vd where
  level : Int
  acc : Bool
  order : List Int
  bad : Bd
  ring : List Ed
  deriving Inhabited, DecidableEq
abbrev avI (l : List Int) (o : Sh.Own) : AV := .list 1 (l.map fun n => [.int .i64 n]) o
@[simp] def encVd (v : Vd) (o1 o2 : Sh.Own) : List AV := [.int .i64 v.level, .bool v.acc, avI v.order o1, .int .i64 v.bad.kind, .int .i64 v.bad.i, .int .i64 v.bad.j, avE v.ring o2]
def badE (h : List Ev) (v : Vd) : Bool :=
  if v.order ≠ [] then false
  else if v.bad.kind ≠ 0 then decide (v.ring = []) && decide (atE h v.bad.i = v.bad)
  else roundE h v.level v.ring
theorem bd_eq (a b : Bd) : decide (a = b) = (decide (a.kind = b.kind) && (decide (a.i = b.i) && decide (a.j = b.j))) := by
  rcases a with ⟨a1, a2, a3⟩
  rcases b with ⟨b1, b2, b3⟩
  simp only [Bd.mk.injEq, Bool.decide_and]
theorem bad_c (h : List Ev) (hl : h.length ≤ 140737488355328) (o : Sh.Own) (v : Vd) (o1 o2 : Sh.Own) (hr : v.ring.length ≤ 140737488355328) : PureC Tryz.prog 49 [avH h o, .agg (encVd v o1 o2)] (.bool (badE h v)) := by
  refine pure_of_dwp Tryz.func49 rfl (by kernel_rfl) (by simp [Tryz.ntmps49]) fun st K hK => ?_
  rw [Tryz.ntmps49]
  refine dwp_of_vk (by kernel_rfl) ?_
  have hst : ∀ (b : Bool) (s : St), b = badE h v → St.le st s → ∃ r', AV.sub r' (.bool b) ∧ ∃ x, St.le x s ∧ K r' x := by
    rintro b s rfl hl
    exact fin' (.refl _) hl hK
  simp
  refine newK_intro fun a ha => ?_
  have hle : ∀ A, St.le st (st.upd a A) := fun A => le_right ha (.refl _)
  by_cases h1 : v.order = []
  · simp [h1]
    by_cases h2 : v.bad.kind = 0
    · simp [h2]
      refine callK_pure (round_c h hl o v.level v.ring hr o2) ?_
      simp [Tryz.results49]
      exact hst _ _ (by simp [badE, h1, h2]) (hle _)
    · simp [h2]
      refine lk_draw mixed [[], [], [], [], [], [], [], [], [], [], [], [], [], [], []] [(22, .agg (encBd (atE h v.bad.i)))] (by kernel_rfl) ?_
      by_cases h3 : v.ring = []
      · simp [h3, Tryz.results49]
        refine ⟨at_c h hl o v.bad.i, ?_⟩
        exact hst _ _ (by simp [badE, h1, h2, h3, bd_eq]) (hle _)
      · have h4 : ¬ (v.ring.length = 0) := by simpa using h3
        simp [h3, Tryz.results49]
        exact hst _ _ (by simp [badE, h1, h2, h3]) (hle _)
  · have h4 : 0 < v.order.length := List.length_pos_iff.2 h1
    simp [h1, h4, Tryz.results49]
    exact hst _ _ (by simp [badE, h1]) (hle _)
end Go.Proofs

namespace Go.Proofs
open Go Go.Sh
set_option maxRecDepth 20000
/-- Whether a verdict that accepts is so, where an order is not looked at. -/
theorem goodf_c (h : List Ev) (hl : h.length ≤ 1099511627776) (o : Sh.Own) (v : Vd) (o1 o2 : Sh.Own) (hf : v.bad.kind ≠ 0 ∨ v.ring ≠ [] ∨ badAll h ≠ []) : PureC Tryz.prog 50 [avH h o, .agg (encVd v o1 o2)] (.bool false) := by
  refine pure_of_dwp Tryz.func50 rfl (by kernel_rfl) (by simp [Tryz.ntmps50]) fun st K hK => ?_
  rw [Tryz.ntmps50]
  refine dwp_of_vk (by kernel_rfl) ?_
  simp
  refine newK_intro fun a ha => ?_
  have hle : ∀ A, St.le st (st.upd a A) := fun A => le_right ha (.refl _)
  by_cases h1 : v.bad.kind = 0
  · by_cases h2 : v.ring = []
    · have h3 : badAll h ≠ [] := by rcases hf with e | e | e; exact absurd h1 e; exact absurd h2 e; exact e
      simp [h1, h2]
      refine callK_pure (all_c h hl o) ?_
      simp [h3, Tryz.results50]
      exact fin' (.refl _) (hle _) hK
    · simp [h1, h2, Tryz.results50]
      exact fin' (.refl _) (hle _) hK
  · simp [h1, Tryz.results50]
    exact fin' (.refl _) (hle _) hK
def checkE (h : List Ev) (v : Vd) (g : Bool) : Int :=
  if v.level ≠ 1 ∧ v.level ≠ 2 then 1
  else if (formedE h).2 ≠ 0 then (formedE h).2
  else if (if v.acc then g else badE h v) = true then 0 else 14
theorem check_c (h : List Ev) (hl : h.length ≤ 140737488355328) (o : Sh.Own) (v : Vd) (o1 o2 : Sh.Own) (hr : v.ring.length ≤ 140737488355328) (g : Bool)
    (hg : (v.level = 1 ∨ v.level = 2) → (formedE h).2 = 0 → v.acc = true → PureC Tryz.prog 50 [avH h o, .agg (encVd v o1 o2)] (.bool g)) : PureC Tryz.prog 21 [avH h o, .agg (encVd v o1 o2)] (.int .i64 (checkE h v g)) := by
  refine pure_of_dwp Tryz.func21 rfl (by kernel_rfl) (by simp [Tryz.ntmps21]) fun st K hK => ?_
  rw [Tryz.ntmps21]
  refine dwp_of_vk (by kernel_rfl) ?_
  have hst : ∀ (b : Int) (s : St), b = checkE h v g → St.le st s → ∃ r', AV.sub r' (.int .i64 b) ∧ ∃ x, St.le x s ∧ K r' x := by
    rintro b s rfl hl
    exact fin' (.refl _) hl hK
  simp
  refine newK_intro fun a ha => ?_
  have hle : ∀ A, St.le st (st.upd a A) := fun A => le_right ha (.refl _)
  by_cases h0 : v.level = 1 ∨ v.level = 2
  · have hc : checkE h v g = if (formedE h).2 ≠ 0 then (formedE h).2 else if (if v.acc then g else badE h v) = true then 0 else 14 := by
      unfold checkE
      rw [if_neg (by omega)]
    rw [hc] at hst
    rcases id h0 with e | e
    · simp [e]
      refine callK_pure (formed_c h hl o) ?_
      by_cases hf : (formedE h).2 = 0
      · simp [hf]
        rw [if_neg (by simp [hf])] at hst
        cases hac : v.acc
        · have hcall := bad_c h hl o v o1 o2 hr
          simp [hac]
          simp [e, hac] at hcall
          refine callK_pure hcall ?_
          cases hb : badE h v
          · simp [Tryz.results21]
            exact hst _ _ (by simp [hac, hb]) (hle _)
          · simp [Tryz.results21]
            exact hst _ _ (by simp [hac, hb]) (hle _)
        · have hcall := hg h0 hf hac
          simp [hac]
          simp [e, hac] at hcall
          refine callK_pure hcall ?_
          cases hb : g
          · simp [Tryz.results21]
            exact hst _ _ (by simp [hac, hb]) (hle _)
          · simp [Tryz.results21]
            exact hst _ _ (by simp [hac, hb]) (hle _)
      · simp [hf, Tryz.results21]
        exact hst _ _ (by rw [if_pos hf]) (hle _)
    · simp [e]
      refine callK_pure (formed_c h hl o) ?_
      by_cases hf : (formedE h).2 = 0
      · simp [hf]
        rw [if_neg (by simp [hf])] at hst
        cases hac : v.acc
        · have hcall := bad_c h hl o v o1 o2 hr
          simp [hac]
          simp [e, hac] at hcall
          refine callK_pure hcall ?_
          cases hb : badE h v
          · simp [Tryz.results21]
            exact hst _ _ (by simp [hac, hb]) (hle _)
          · simp [Tryz.results21]
            exact hst _ _ (by simp [hac, hb]) (hle _)
        · have hcall := hg h0 hf hac
          simp [hac]
          simp [e, hac] at hcall
          refine callK_pure hcall ?_
          cases hb : g
          · simp [Tryz.results21]
            exact hst _ _ (by simp [hac, hb]) (hle _)
          · simp [Tryz.results21]
            exact hst _ _ (by simp [hac, hb]) (hle _)
      · simp [hf, Tryz.results21]
        exact hst _ _ (by rw [if_pos hf]) (hle _)
  · simp only [not_or] at h0
    simp [h0.1, h0.2, Tryz.results21]
    exact hst _ _ (by simp [checkE, h0.1, h0.2]) (hle _)
end Go.Proofs

namespace Go.Proofs
open Go Go.Sh
set_option maxRecDepth 20000
def few13 (h : List Ev) : Bool := h.all (fun e => decide (0 ≤ e.txn ∧ e.txn ≤ 60)) && decide (h.length ≤ 80)
theorem few_c (h : List Ev) (hl : h.length ≤ 140737488355328) (o : Sh.Own) : PureC Tryz.prog 20 [avH h o] (.bool (few13 h)) := by
  refine pure_of_dwp Tryz.func20 rfl (by kernel_rfl) (by simp [Tryz.ntmps20]) fun st K hK => ?_
  rw [Tryz.ntmps20]
  refine dwp_of_vk (by kernel_rfl) ?_
  simp
  have hst : ∀ (b : Bool) (s : St), b = few13 h → St.le st s → ∃ r', AV.sub r' (.bool b) ∧ ∃ x, St.le x s ∧ K r' x := by
    rintro b s rfl hl
    exact fin' (.refl _) hl hK
  refine lk_loop (α := Nat) (fun i => Env.ofList [(0, avH h o), (3, .int .i64 i)]) (fun _ => st) (fun i => i ≤ h.length ∧ ∀ j (hj : j < h.length), j < i → 0 ≤ h[j].txn ∧ h[j].txn ≤ 60) (fun i => h.length - i) 0 (by kernel_rfl) ⟨Nat.zero_le _, fun _ _ hj => absurd hj (by omega)⟩ (Env.sub_ofList (by simp)) (.refl _) ?_
  rintro i ⟨hi, hno⟩ R hR hX
  simp
  by_cases hlt : i < h.length
  · have hw : IntKind.i64.wrap (↑i + 1) = ↑i + 1 := wrap_i64 (by omega) (by omega)
    have hfalse : ¬ (0 ≤ h[i].txn ∧ h[i].txn ≤ 60) → few13 h = false := by
      intro hn
      have : h.all (fun e => decide (0 ≤ e.txn ∧ e.txn ≤ 60)) = false := by
        rw [List.all_eq_false]
        exact ⟨h[i], List.getElem_mem hlt, by simpa using hn⟩
      unfold few13
      rw [this, Bool.false_and]
    by_cases h1 : h[i].txn < 0
    · simp [hlt, h1]
      refine hX .ret _ _ (by simp) ?_
      simp [Tryz.results20]
      exact hst _ _ (by rw [hfalse (by omega)]) (.refl _)
    · by_cases h2 : 60 < h[i].txn
      · simp [hlt, h1, h2]
        refine hX .ret _ _ (by simp) ?_
        simp [Tryz.results20]
        exact hst _ _ (by rw [hfalse (by omega)]) (.refl _)
      · simp [hlt, h1, h2]
        refine hR (i + 1) _ _ ⟨hlt, fun j hj hji => ?_⟩ (by omega) (Env.sub_ofList (by simp [hw])) (.refl _)
        by_cases e : j = i
        · subst e; omega
        · exact hno j hj (by omega)
  · simp [hlt]
    refine hX _ _ _ (by simp) ?_
    simp [Tryz.results20]
    refine hst _ _ ?_ (.refl _)
    have : h.all (fun e => decide (0 ≤ e.txn ∧ e.txn ≤ 60)) = true := by
      rw [List.all_eq_true]
      intro x hx
      obtain ⟨j, hj, rfl⟩ := List.getElem_of_mem hx
      simpa using hno j hj (by omega)
    unfold few13
    rw [this, Bool.true_and]
    congr 1
    apply propext
    omega
end Go.Proofs

namespace Go.Proofs
open Go Go.Sh
set_option maxRecDepth 20000
theorem pure_sub {P : Program} {f : FuncId} {args args' : List AV} {r : AV} (h : PureC P f args r) (hl : args.length = args'.length) (hs : ∀ j, AV.sub (args.getD j .undef) (args'.getD j .undef)) : PureC P f args' r :=
  fun st K hK => ⟨(h st K hK).1, fun B w0 M w vals hI hv => (h st K hK).2 B w0 M w vals hI ⟨hv.1.trans hl.symm, fun j => hs j M _ (hv.2 j)⟩⟩
def shownH : List Ev := [⟨1, 1, ⟨#[]⟩, ⟨#[]⟩⟩, ⟨3, 1, ⟨#[97]⟩, ⟨#[120]⟩⟩, ⟨2, 1, ⟨#[97]⟩, ⟨#[]⟩⟩, ⟨4, 1, ⟨#[]⟩, ⟨#[]⟩⟩]
def shownA : Vd := ⟨1, true, [1], ⟨0, 0, 0⟩, []⟩
def shownB : Vd := ⟨1, false, [], ⟨3, 2, 1⟩, []⟩
theorem shown_formed : (formedE shownH).2 = 0 := by decide +kernel
theorem shown_bads : badAll shownH ≠ [] := by decide +kernel
theorem shown_a : checkE shownH shownA false = 14 := by decide +kernel
theorem shown_b (g : Bool) : checkE shownH shownB g = 0 := by cases g <;> decide +kernel
theorem shown_c : PureC Tryz.prog 19 [] (.bool true) := by
  refine pure_of_dwp Tryz.func19 rfl (by kernel_rfl) (by simp [Tryz.ntmps19]) fun st K hK => ?_
  rw [Tryz.ntmps19]
  refine dwp_of_vk (by kernel_rfl) ?_
  simp
  have ha := check_c shownH (by decide) .clip shownA .clip .clip (by decide) false (fun _ _ _ => goodf_c shownH (by decide) .clip shownA .clip .clip (.inr (.inr shown_bads)))
  rw [shown_a] at ha
  refine callK_pure (pure_sub ha rfl (sub_cons (.of_eq (by rfl)) (sub_cons (AV.sub.agg rfl (sub_cons (.refl _) (sub_cons (.refl _) (sub_cons (.refl _) (sub_cons (.refl _) (sub_cons (.refl _) (sub_cons (.refl _) (sub_cons (AV.sub.nil _ _ _ _ (.inr ⟨rfl, rfl⟩)) sub_nil)))))))) sub_nil))) ?_
  simp
  have hb := check_c shownH (by decide) .clip shownB .clip .clip (by decide) false (fun _ _ e => by cases e)
  rw [shown_b] at hb
  refine callK_pure (pure_sub hb rfl (sub_cons (.of_eq (by rfl)) (sub_cons (AV.sub.agg rfl (sub_cons (.refl _) (sub_cons (.refl _) (sub_cons (AV.sub.nil _ _ _ _ (.inr ⟨rfl, rfl⟩)) (sub_cons (.refl _) (sub_cons (.refl _) (sub_cons (.refl _) (sub_cons (AV.sub.nil _ _ _ _ (.inr ⟨rfl, rfl⟩)) sub_nil)))))))) sub_nil))) ?_
  simp [Tryz.results19]
  exact fin hK
end Go.Proofs
