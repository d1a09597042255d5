import Derived.Test.YtdhmbpipjdapfaaGreatShK14
namespace Go.Proofs
open Go Go.Sh
set_option maxRecDepth 20000
@[simp] theorem ti38 : tiOf Tryz.prog 38 = some ⟨.struct [(0, 3), (1, 4), (2, 33), (3, 35), (6, 36)], 7, 88, [.int .i64 0, .bool false, .list 0 [] .clip, .int .i64 0, .int .i64 0, .int .i64 0, .list 0 [] .clip]⟩ := by kernel_rfl
@[simp] theorem ti33 : tiOf Tryz.prog 33 = some ⟨.slice 3, 1, 24, [.list 0 [] .clip]⟩ := by kernel_rfl
structure Vd where
  level : Int
  acc : Bool
  order : List Int
  bad : Bd
  ring : List Ed
  deriving Inhabited, DecidableEq
abbrev avI (l : List Int) (o : Sh.Own) : AV := .list 1 (l.map fun n => [.int .i64 n]) o
@[simp] def encVd (v : Vd) (o1 o2 : Sh.Own) : List AV := [.int .i64 v.level, .bool v.acc, avI v.order o1, .int .i64 v.bad.kind, .int .i64 v.bad.i, .int .i64 v.bad.j, avE v.ring o2]
def badE (h : List Ev) (v : Vd) : Bool :=
  if v.order ≠ [] then false
  else if v.bad.kind ≠ 0 then decide (v.ring = []) && decide (atE h v.bad.i = v.bad)
  else roundE h v.level v.ring
theorem bd_eq (a b : Bd) : decide (a = b) = (decide (a.kind = b.kind) && (decide (a.i = b.i) && decide (a.j = b.j))) := by
  rcases a with ⟨a1, a2, a3⟩
  rcases b with ⟨b1, b2, b3⟩
  simp only [Bd.mk.injEq, Bool.decide_and]
theorem bad_c (h : List Ev) (hl : h.length ≤ 140737488355328) (o : Sh.Own) (v : Vd) (o1 o2 : Sh.Own) (hr : v.ring.length ≤ 140737488355328) : PureC Tryz.prog 49 [avH h o, .agg (encVd v o1 o2)] (.bool (badE h v)) := by
  refine pure_of_dwp Tryz.func49 rfl (by kernel_rfl) (by simp [Tryz.ntmps49]) fun st K hK => ?_
  rw [Tryz.ntmps49]
  refine dwp_of_vk (by kernel_rfl) ?_
  have hst : ∀ (b : Bool) (s : St), b = badE h v → St.le st s → ∃ r', AV.sub r' (.bool b) ∧ ∃ x, St.le x s ∧ K r' x := by
    rintro b s rfl hl
    exact fin' (.refl _) hl hK
  simp
  refine newK_intro fun a ha => ?_
  have hle : ∀ A, St.le st (st.upd a A) := fun A => le_right ha (.refl _)
  by_cases h1 : v.order = []
  · simp [h1]
    by_cases h2 : v.bad.kind = 0
    · simp [h2]
      refine callK_pure (round_c h hl o v.level v.ring hr o2) ?_
      simp [Tryz.results49]
      exact hst _ _ (by simp [badE, h1, h2]) (hle _)
    · simp [h2]
      refine lk_draw mixed [[], [], [], [], [], [], [], [], [], [], [], [], [], [], []] [(22, .agg (encBd (atE h v.bad.i)))] (by kernel_rfl) ?_
      by_cases h3 : v.ring = []
      · simp [h3, Tryz.results49]
        refine ⟨at_c h hl o v.bad.i, ?_⟩
        exact hst _ _ (by simp [badE, h1, h2, h3, bd_eq]) (hle _)
      · have h4 : ¬ (v.ring.length = 0) := by simpa using h3
        simp [h3, Tryz.results49]
        exact hst _ _ (by simp [badE, h1, h2, h3]) (hle _)
  · have h4 : 0 < v.order.length := List.length_pos_iff.2 h1
    simp [h1, h4, Tryz.results49]
    exact hst _ _ (by simp [badE, h1]) (hle _)
end Go.Proofs
