import Derived.Test.YtdhmbpipjdapfaaGreatShBo
set_option linter.unusedSimpArgs false
set_option linter.unusedVariables false

namespace Go.Proofs
open Go Go.Sh
set_option maxRecDepth 20000
@[simp] theorem ti91 : tiOf Tryz.prog 91 = some ⟨.struct [(0, 3), (1, 3), (2, 36)], 3, 40, [.int .i64 0, .int .i64 0, .list 0 [] .clip]⟩ := by kernel_rfl
@[simp] theorem ti71 : tiOf Tryz.prog 71 = some ⟨.slice 91, 1, 24, [.list 0 [] .clip]⟩ := by kernel_rfl
structure Sp where
  frm : Int
  to : Int
  e : List Ed
  deriving Inhabited, DecidableEq
@[simp] def encSp (s : Sp) : List AV := [.int .i64 s.frm, .int .i64 s.to, avE s.e .no]
abbrev avS (l : List Sp) (o : Sh.Own) : AV := .list 3 (l.map encSp) o
theorem clip_c (l : List Ed) (hl : l.length ≤ 140737488355328) (o : Sh.Own) : PureC Tryz.prog 103 [avE l o] (avE l .clip) := by
  refine pure_of_dwp Tryz.func103 rfl (by kernel_rfl) (by simp [Tryz.ntmps103]) fun st K hK => ?_
  rw [Tryz.ntmps103]
  refine dwp_of_vk (by kernel_rfl) ?_
  have ht : List.take l.length (l.map encEd) = l.map encEd := List.take_of_length_le (by simp)
  simp [ht, Tryz.results103]
  exact fin hK
theorem putEd_c (a b : List Ed) (ha : a.length ≤ 1073741824) (hb : b.length ≤ 1073741824) (o o' : Sh.Own) : PureC Tryz.prog 73 [avE a o, avE b o'] (avE (a ++ b) .no) := by
  refine pure_of_dwp Tryz.func73 rfl (by kernel_rfl) (by simp [Tryz.ntmps73]) fun st K hK => ?_
  rw [Tryz.ntmps73]
  refine dwp_of_vk (by kernel_rfl) ?_
  simp
  refine callK_pure (clip_c a (by omega) o) ?_
  have hb1 : (a.length + b.length) * 40 ≤ 140737488355328 := by omega
  have hb2 : a.length + b.length ≤ 9223372036854775807 := by omega
  simp [-AV.one, -List.all_eq_true, all_ones, hb1, hb2]
  refine appK_intro _ rfl fun o' s' ho => ?_
  simp [Tryz.results73]
  exact fin' (AV.sub.list_of_eq (by simp)) (owns_le ho) hK
theorem idxSp_c (v : List Sp) (hl : v.length ≤ 140737488355328) (o : Sh.Own) (g : FuncId) (caps : List AV) (p : Sp → Bool) {st : St} {K : AV → St → Prop}
    (hp : ∀ e ∈ v, ∀ K' : AV → St → Prop, K' (.bool (p e)) st → dcall Tryz.prog g (.agg (encSp e) :: caps) st K') (hK : K (.int .i64 (idxOf v p)) st) :
    dcall Tryz.prog 89 [avS v o, .fn g caps] st K := by
  refine dcall_of_dwp Tryz.func89 rfl (by kernel_rfl) (by simp [Tryz.ntmps89]) ?_
  rw [Tryz.ntmps89]
  refine dwp_of_vk (by kernel_rfl) ?_
  simp
  refine lk_loop (α := Nat) (fun i => Env.ofList [(0, avS v o), (1, .fn g caps), (7, .int .i64 v.length), (8, .int .i64 i)]) (fun _ => st) (fun i => i ≤ v.length ∧ ∀ j (hj : j < v.length), j < i → p v[j] = false) (fun i => v.length - i) 0 (by kernel_rfl) ⟨Nat.zero_le _, fun _ _ hj => absurd hj (by omega)⟩ (Env.sub_ofList (by simp)) (.refl _) ?_
  rintro i ⟨hi, hno⟩ R hR hX
  simp
  by_cases hlt : i < v.length
  · have hw : IntKind.i64.wrap (↑i + 1) = ↑i + 1 := wrap_i64 (by omega) (by omega)
    simp [hlt]
    refine callK_intro (hp v[i] (List.getElem_mem hlt) _ ?_)
    cases hpi : p v[i]
    · simp
      refine hR (i + 1) _ _ ⟨hlt, fun j hj hji => ?_⟩ (by omega) (Env.sub_ofList (by simp [hw])) (.refl _)
      by_cases e : j = i
      · subst e; exact hpi
      · exact hno j hj (by omega)
    · simp
      refine hX .ret _ _ (by simp) ?_
      simp [Tryz.results89]
      exact fin (by rw [idxOf_hit hlt hpi hno] at hK; exact hK)
  · simp [hlt]
    refine hX _ _ _ (by simp) ?_
    simp [Tryz.results89]
    exact fin (by rw [idxOf_miss fun j hj => hno j hj (by omega)] at hK; exact hK)
theorem idxOf_any {α : Type} (v : List α) (p : α → Bool) : decide (0 ≤ idxOf v p) = v.any p := by
  rcases idxOf_spec v p with ⟨h1, h2⟩ | ⟨i, hi, h1, h2, _⟩
  · rw [h1]
    have : v.any p = false := List.any_eq_false.2 fun x hx => by simp [h2 x hx]
    rw [this]; rfl
  · rw [h1]
    have : v.any p = true := List.any_eq_true.2 ⟨_, List.getElem_mem hi, h2⟩
    rw [this]; simp
theorem contSp_c (v : List Sp) (hl : v.length ≤ 140737488355328) (o : Sh.Own) (g : FuncId) (caps : List AV) (p : Sp → Bool) {st : St} {K : AV → St → Prop}
    (hp : ∀ e ∈ v, ∀ K' : AV → St → Prop, K' (.bool (p e)) st → dcall Tryz.prog g (.agg (encSp e) :: caps) st K') (hK : K (.bool (v.any p)) st) :
    dcall Tryz.prog 57 [avS v o, .fn g caps] st K := by
  refine dcall_of_dwp Tryz.func57 rfl (by kernel_rfl) (by simp [Tryz.ntmps57]) ?_
  rw [Tryz.ntmps57]
  refine dwp_of_vk (by kernel_rfl) ?_
  simp
  refine callK_intro (idxSp_c v hl o g caps p hp ?_)
  simp [Tryz.results57]
  exact fin (by rw [idxOf_any]; exact hK)
theorem equalI_c (a b : List Int) (ha : a.length ≤ 140737488355328) (o o' : Sh.Own) : PureC Tryz.prog 55 [avI a o, avI b o'] (.bool (decide (a = b))) := by
  refine pure_of_dwp Tryz.func55 rfl (by kernel_rfl) (by simp [Tryz.ntmps55]) fun st K hK => ?_
  rw [Tryz.ntmps55]
  refine dwp_of_vk (by kernel_rfl) ?_
  simp
  by_cases hne : a.length = b.length
  · simp [hne]
    refine lk_loop (α := Nat) (fun i => Env.ofList [(0, avI a o), (1, avI b o'), (12, .int .i64 a.length), (13, .int .i64 i)]) (fun _ => st) (fun i => i ≤ a.length ∧ ∀ j (hj : j < a.length), j < i → a[j] = b[j]) (fun i => a.length - i) 0 (by kernel_rfl) ⟨Nat.zero_le _, fun _ _ hj => absurd hj (by omega)⟩ (Env.sub_ofList (by simp [hne])) (.refl _) ?_
    rintro i ⟨hi, hno⟩ R hR hX
    simp
    by_cases hlt : i < a.length
    · have hw : IntKind.i64.wrap (↑i + 1) = ↑i + 1 := wrap_i64 (by omega) (by omega)
      have hlb : i < b.length := by omega
      simp [hlt]
      refine lk_draw mixed (List.replicate 9 []) [] (by kernel_rfl) ?_
      simp [hlt, hlb]
      by_cases he : a[i] = b[i]
      · simp [he]
        refine hR (i + 1) _ _ ⟨hlt, fun j hj hji => ?_⟩ (by omega) (Env.sub_ofList (by simp [hw])) (.refl _)
        by_cases e : j = i
        · subst e; exact he
        · exact hno j hj (by omega)
      · simp [he]
        refine hX .ret _ _ (by simp) ?_
        simp [Tryz.results55]
        have : ¬ a = b := fun e => he (by subst e; rfl)
        exact fin (by simpa [this] using hK)
    · simp [hlt]
      refine hX _ _ _ (by simp) ?_
      simp [Tryz.results55]
      have : a = b := List.ext_getElem hne fun j h1 h2 => hno j h1 (by omega)
      exact fin (by simpa [this] using hK)
  · have h' : ¬ ((a.length : Int) = b.length) := by omega
    simp [hne, h', Tryz.results55]
    have : ¬ a = b := fun e => hne (by rw [e])
    exact fin (by simpa [this] using hK)
end Go.Proofs

namespace Go.Sh
theorem AV.sub.list_el {sz : Nat} {xs ys : List (List AV)} {o : Own} (hl : xs.length = ys.length) (hz : ∀ i, i < xs.length → (xs.getD i []).length = (ys.getD i []).length)
    (h : ∀ i j, AV.sub ((xs.getD i []).getD j .undef) ((ys.getD i []).getD j .undef)) : AV.sub (.list sz xs o) (.list sz ys o) := by
  intro M x hx
  cases hx with
  | nils _ _ ho =>
    have : xs = [] := List.length_eq_zero_iff.1 hl
    subst this
    exact .nils _ _ ho
  | list _ _ _ a cap g hF hg hn hc hm hoo =>
    rw [← hl]
    exact .list sz xs o a cap g (fun i j hi hj => hF i j (by omega) hj) (fun i j => h i j M _ (hg i j)) (fun i hi => by rw [hz i hi]; exact hn i (by omega)) (by omega) hm (by rw [hl]; exact hoo)
@[simp] theorem sub_nil_clip (sz sz' : Nat) : AV.sub (.list sz [] .clip) (.list sz' [] .clip) := AV.sub.nil _ _ _ _ (.inr ⟨rfl, rfl⟩)
theorem sub_snoc {sz : Nat} {xs : List (List AV)} {u v : List AV} {o : Own} (hl : u.length = v.length) (h : ∀ j, AV.sub (u.getD j .undef) (v.getD j .undef)) : AV.sub (.list sz (xs ++ [u]) o) (.list sz (xs ++ [v]) o) := by
  have key : ∀ i, (i ≠ xs.length ∧ (xs ++ [u]).getD i [] = (xs ++ [v]).getD i []) ∨ ((xs ++ [u]).getD i [] = u ∧ (xs ++ [v]).getD i [] = v) := by
    intro i
    by_cases hi : i < xs.length
    · exact .inl ⟨by omega, by simp [List.getD_eq_getElem?_getD, List.getElem?_append_left hi]⟩
    · by_cases he : i = xs.length
      · subst he; exact .inr (by simp [List.getD_eq_getElem?_getD])
      · exact .inl ⟨he, by simp [List.getD_eq_getElem?_getD, List.getElem?_append_right (Nat.le_of_not_lt hi), show ∀ w : List AV, [w][i - xs.length]? = none from fun w => by simp; omega]⟩
  refine .list_el (by simp) (fun i _ => ?_) fun i j => ?_
  · rcases key i with ⟨_, e⟩ | ⟨e1, e2⟩
    · rw [e]
    · rw [e1, e2, hl]
  · rcases key i with ⟨_, e⟩ | ⟨e1, e2⟩
    · rw [e]; exact .refl _
    · rw [e1, e2]; exact h j
end Go.Sh
namespace Go.Proofs
open Go Go.Sh
set_option maxRecDepth 20000
def inE (level : Int) (e f : Ed) : List Sp := if level = 2 ∧ f.kind = 3 ∧ f.frm = e.to then [⟨e.frm, f.to, [e, f]⟩] else []
def inTo (level : Int) (l : List Ed) (e : Ed) (n : Nat) : List Sp := (l.take n).flatMap (inE level e)
def stepOf (level : Int) (l : List Ed) (e : Ed) : List Sp := if level ≠ 1 ∧ (level ≠ 2 ∨ e.kind = 3) then [] else ⟨e.frm, e.to, [e]⟩ :: l.flatMap (inE level e)
def stepsTo (level : Int) (l : List Ed) (n : Nat) : List Sp := (l.take n).flatMap (stepOf level l)
def stepsE (level : Int) (l : List Ed) : List Sp := l.flatMap (stepOf level l)
theorem inE_length (level : Int) (e f : Ed) : (inE level e f).length ≤ 1 := by unfold inE; split <;> simp
theorem flatMap_le {α β : Type} (f : α → List β) (b : Nat) : ∀ (l : List α), (∀ x ∈ l, (f x).length ≤ b) → (l.flatMap f).length ≤ l.length * b
  | [], _ => by simp
  | x :: l, h => by
    have h1 := h x (by simp)
    have h2 := flatMap_le f b l fun y hy => h y (by simp [hy])
    rw [List.flatMap_cons, List.length_append, List.length_cons, Nat.succ_mul]; omega
theorem inTo_length (level : Int) (l : List Ed) (e : Ed) (n : Nat) : (inTo level l e n).length ≤ l.length := by
  have := flatMap_le (inE level e) 1 (l.take n) fun x _ => inE_length _ _ _
  rw [List.length_take] at this
  unfold inTo; omega
theorem stepOf_length (level : Int) (l : List Ed) (e : Ed) : (stepOf level l e).length ≤ l.length + 1 := by
  have := flatMap_le (inE level e) 1 l fun x _ => inE_length _ _ _
  unfold stepOf
  split
  · simp
  · rw [List.length_cons]; omega
theorem stepsTo_length (level : Int) (l : List Ed) (n : Nat) : (stepsTo level l n).length ≤ l.length * (l.length + 1) := by
  have := flatMap_le (stepOf level l) (l.length + 1) (l.take n) fun x _ => stepOf_length _ _ _
  rw [List.length_take] at this
  exact Nat.le_trans this (Nat.mul_le_mul_right _ (Nat.min_le_right _ _))
theorem stepsE_to (level : Int) (l : List Ed) : stepsE level l = stepsTo level l l.length := by unfold stepsE stepsTo; rw [List.take_length]
theorem owns_len {st0 st : St} {e sz n m : Nat} {o : Sh.Own} (h : Owns st0 e sz n o st) (hn : n = m) : Owns st0 e sz m o st := hn ▸ h
theorem steps_c (level : Int) (l : List Ed) (hl : l.length ≤ 1048576) (o : Sh.Own) : PureC Tryz.prog 40 [.int .i64 level, avE l o] (avS (stepsE level l) .no) := by
  refine pure_of_dwp Tryz.func40 rfl (by kernel_rfl) (by simp [Tryz.ntmps40]) fun st K hK => ?_
  rw [Tryz.ntmps40]
  refine dwp_of_vk (by kernel_rfl) ?_
  have hsq : l.length * (l.length + 1) ≤ 1048576 * 1048577 := Nat.mul_le_mul hl (by omega)
  simp
  refine lk_loop (α := Nat × Sh.Own × St) (fun x => Env.ofList [(0, .int .i64 level), (1, avE l o), (5, avS (stepsTo level l x.1) x.2.1), (11, avE l o), (12, .int .i64 l.length), (13, .int .i64 x.1)]) (fun x => x.2.2)
    (fun x => x.1 ≤ l.length ∧ ∃ st0, St.le st st0 ∧ Owns st0 91 3 (stepsTo level l x.1).length x.2.1 x.2.2) (fun x => l.length - x.1) (0, .clip, st) (by kernel_rfl) ⟨Nat.zero_le _, st, .refl _, rfl⟩ (Env.sub_ofList (by simp [stepsTo, avS])) (.refl _) ?_
  rintro ⟨i, ow, s⟩ ⟨hi, st0, hle, hown⟩ R hR hX
  simp only at hi hown
  simp
  by_cases hlt : i < l.length
  · have hw : IntKind.i64.wrap (↑i + 1) = ↑i + 1 := wrap_i64 (by omega) (by omega)
    simp [hlt]
    refine newK_intro fun x hx => ?_
    obtain ⟨hxo, hx0⟩ := owns_fresh hown hx
    have hsl := stepsTo_length level l i
    have hs : stepsTo level l (i + 1) = stepsTo level l i ++ stepOf level l l[i] := by
      unfold stepsTo; rw [List.take_succ_eq_append_getElem hlt, List.flatMap_append]; simp
    simp
    have hskip : (level ≠ 1 ∧ (level ≠ 2 ∨ l[i].kind = 3)) → ∀ (env : Env) (s' : St), Env.sub (Env.ofList [(0, .int .i64 level), (1, avE l o), (5, avS (stepsTo level l i) ow), (11, avE l o), (12, .int .i64 l.length), (13, .int .i64 (i + 1 : Nat))]) env → St.le s s' → R .normal env s' := by
      intro hc env s' he hls
      have : stepsTo level l (i + 1) = stepsTo level l i := by rw [hs, stepOf, if_pos hc, List.append_nil]
      exact hR (i + 1, ow, s) env s' ⟨hlt, st0, hle, by rw [this]; exact hown⟩ (by simp; omega) (by rw [this]; exact he) hls
    by_cases hsk : level ≠ 1 ∧ (level ≠ 2 ∨ l[i].kind = 3)
    · have p1 : (level = 1) = False := by simp [hsk.1]
      by_cases h2 : level = 2
      · have p2 : (level = 2) = True := by simp [h2]
        have p3 : (l[i].kind = 3) = True := by simpa [h2] using hsk.2
        simp [p1, p2, p3, hw]
        exact hskip hsk _ _ (Env.sub_ofList (by simp [hw])) (le_right hx (le_right hx (.refl _)))
      · have p2 : (level = 2) = False := by simp [h2]
        simp [p1, p2, hw]
        exact hskip hsk _ _ (Env.sub_ofList (by simp [hw])) (le_right hx (le_right hx (.refl _)))
    clear hskip
    have hst : stepOf level l l[i] = ⟨l[i].frm, l[i].to, [l[i]]⟩ :: inTo level l l[i] l.length := by rw [stepOf, if_neg hsk, inTo, List.take_length]
    rw [hst] at hs
    have hb1 : ((stepsTo level l i).length + 1) * 40 ≤ 140737488355328 := by omega
    have hb2 : (stepsTo level l i).length ≤ 9223372036854775806 := by omega
    have hown2 := owns_upd (owns_upd hown x (.cells 44 [.int .i64 0, .int .i64 0, .int .i64 0, .int .i64 0, .int .i64 0]) hxo) x (.cells 44 (encEd l[i])) hxo
    have hsx : ∀ A B, ((st0.upd x A).upd x B) x = some B := fun A B => upd_eq _ _ _
    have hlx : ∀ A B, St.le st ((st0.upd x A).upd x B) := fun A B j y e => le_right hx0 (le_right hx0 (.refl _)) j y (hle j y e)
    have hpass : level = 1 ∨ (level ≠ 1 ∧ level = 2 ∧ l[i].kind ≠ 3) := by omega
    rcases hpass with h1 | ⟨h1, h2, h3⟩
    have p1 : (level = 1) = True := by simp [h1]
    simp [p1, hb1, hb2]
    rotate_left
    have p1 : (level = 1) = False := by simp [h1]
    have p2 : (level = 2) = True := by simp [h2]
    have p3 : (l[i].kind = 3) = False := by simp [h3]
    simp [p1, p2, p3, hb1, hb2]
    all_goals
      refine appK_intro _ (by rw [List.length_map]; exact hown2) fun ow1 s1 ho1 => ?_
      simp
      refine lk_loop (α := Nat × Sh.Own × St) (fun y => Env.ofList [(0, .int .i64 level), (1, avE l o), (5, avS (stepsTo level l i ++ ⟨l[i].frm, l[i].to, [l[i]]⟩ :: inTo level l l[i] y.1) y.2.1), (7, .box x 0), (8, avE [l[i]] .no), (11, avE l o), (12, .int .i64 l.length), (13, .int .i64 i), (39, avE l o), (40, .int .i64 l.length), (41, .int .i64 y.1)]) (fun y => y.2.2)
        (fun y => y.1 ≤ l.length ∧ ∃ st0, St.le st st0 ∧ st0 x = some (.cells 44 (encEd l[i])) ∧ Owns st0 91 3 ((stepsTo level l i).length + 1 + (inTo level l l[i] y.1).length) y.2.1 y.2.2) (fun y => l.length - y.1) (0, ow1, s1) (by kernel_rfl) ⟨Nat.zero_le _, _, hlx _ _, hsx _ _, by simpa [inTo] using ho1⟩ (Env.sub_ofList ?_) (.refl _) ?_
      · have hsub : AV.sub (.list 3 ((stepsTo level l i).map encSp ++ [[.int .i64 l[i].frm, .int .i64 l[i].to, avE [l[i]] .no]]) ow1) (.list 3 ((stepsTo level l i).map encSp ++ [[.int .i64 l[i].frm, .int .i64 l[i].to, .list 5 [encEd l[i]] .clip]]) ow1) :=
          sub_snoc rfl (sub_cons (.refl _) (sub_cons (.refl _) (sub_cons (.list _ _ _) sub_nil)))
        simp [inTo]
        exact ⟨by rw [avS, List.map_append]; exact hsub, AV.sub.list _ _ _⟩
      · rintro ⟨k, ow2, s2⟩ ⟨hk, st2, hle2, hx2, hown3⟩ R2 hR2 hX2
        simp only at hk hown3
        clear p1 hb1 hb2 hown2 hsx hlx hown hle ho1
        simp
        by_cases hkl : k < l.length
        · have hwk : IntKind.i64.wrap (↑k + 1) = ↑k + 1 := wrap_i64 (by omega) (by omega)
          simp [hkl]
          refine newK_intro fun y hy => ?_
          obtain ⟨hyo, hy0⟩ := owns_fresh hown3 hy
          have hxy : x ≠ y := fun e => by subst e; rw [hy0] at hx2; cases hx2
          have hs2x : cellsAt s2 x = some (44, encEd l[i]) := cellsAt_of (owns_le hown3 _ _ hx2)
          have hil := inTo_length level l l[i] k
          have hin : inTo level l l[i] (k + 1) = inTo level l l[i] k ++ inE level l[i] l[k] := by
            unfold inTo; rw [List.take_succ_eq_append_getElem hkl, List.flatMap_append]; simp
          have hown4 := owns_upd (owns_upd hown3 y (.cells 44 [.int .i64 0, .int .i64 0, .int .i64 0, .int .i64 0, .int .i64 0]) hyo) y (.cells 44 (encEd l[k])) hyo
          have hskip : ¬ (level = 2 ∧ l[k].kind = 3 ∧ l[k].frm = l[i].to) → ∀ (env : Env) (s' : St), Env.sub (Env.ofList [(0, .int .i64 level), (1, avE l o), (5, avS (stepsTo level l i ++ ⟨l[i].frm, l[i].to, [l[i]]⟩ :: inTo level l l[i] k) ow2), (7, .box x 0), (8, avE [l[i]] .no), (11, avE l o), (12, .int .i64 l.length), (13, .int .i64 i), (39, avE l o), (40, .int .i64 l.length), (41, .int .i64 (k + 1 : Nat))]) env → St.le s2 s' → R2 .normal env s' := by
            intro hc env s' he hls
            have : inTo level l l[i] (k + 1) = inTo level l l[i] k := by rw [hin, inE, if_neg hc, List.append_nil]
            exact hR2 (k + 1, ow2, s2) env s' ⟨hkl, st2, hle2, hx2, by rw [this]; exact hown3⟩ (by simp; omega) (by rw [this]; exact he) hls
          simp
          by_cases c2 : level = 2
          · have q2 : (level = 2) = True := by simp [c2]
            by_cases c3 : l[k].kind = 3
            · have q3 : (l[k].kind = 3) = True := by simp [c3]
              by_cases c4 : l[k].frm = l[i].to
              · have q4 : (l[k].frm = l[i].to) = True := by simp [c4]
                simp [q2, q3, q4, hxy, hs2x]
                refine lk_draw mixed (List.replicate 13 []) [(67, avE [l[i], l[k]] .no)] (by kernel_rfl) ?_
                have hb3 : ((stepsTo level l i).length + ((inTo level l l[i] k).length + 1) + 1) * 40 ≤ 140737488355328 := by omega
                have hb4 : (stepsTo level l i).length + ((inTo level l l[i] k).length + 1) ≤ 9223372036854775806 := by omega
                have hin2 : inE level l[i] l[k] = [⟨l[i].frm, l[k].to, [l[i], l[k]]⟩] := by rw [inE, if_pos ⟨c2, c3, c4⟩]
                rw [hin2] at hin
                simp [hxy, hs2x, hb3, hb4]
                refine ⟨putEd_c [l[i]] [l[k]] (by simp) (by simp) .no .clip, ?_⟩
                refine tkApp_intro _ (owns_len hown4 (by simp; omega)) fun ow3 s3 ho3 => ?_
                simp [hwk]
                refine hR2 (k + 1, ow3, s3) _ _ ⟨hkl, _, fun j z e => le_right hy0 (le_right hy0 (.refl _)) j z (hle2 j z e), ?_, owns_len ho3 (by simp [hin]; omega)⟩ (by simp; omega) (Env.sub_ofList (by simp [avS, hwk, hin])) (.refl _)
                rw [upd_ne _ hxy, upd_ne _ hxy]; exact hx2
              · have q4 : (l[k].frm = l[i].to) = False := by simp [c4]
                simp [q2, q3, q4, hxy, hs2x, hwk]
                exact hskip (by simp [c4]) _ _ (Env.sub_ofList (by simp [hwk])) (le_right hy (le_right hy (.refl _)))
            · have q3 : (l[k].kind = 3) = False := by simp [c3]
              simp [q2, q3, hwk]
              exact hskip (by simp [c3]) _ _ (Env.sub_ofList (by simp [hwk])) (le_right hy (le_right hy (.refl _)))
          · have q2 : (level = 2) = False := by simp [c2]
            simp [q2, hwk]
            exact hskip (by simp [c2]) _ _ (Env.sub_ofList (by simp [hwk])) (le_right hy (le_right hy (.refl _)))
        · simp [hkl]
          refine hX2 _ _ _ (by simp) ?_
          have : k = l.length := by omega
          subst this
          simp [hw]
          refine hR (i + 1, ow2, s2) _ _ ⟨hlt, st2, hle2, owns_len hown3 (by simp [hs]; omega)⟩ (by simp; omega) (Env.sub_ofList (by simp [hw, hs])) (.refl _)
  · simp [hlt]
    refine hX _ _ _ (by simp) ?_
    have : i = l.length := by omega
    subst this
    simp [Tryz.results40]
    exact fin' (by rw [stepsE_to]; exact AV.sub.list _ _ _) (fun j y e => owns_le hown j y (hle j y e)) hK
end Go.Proofs

namespace Go.Proofs
open Go Go.Sh
set_option maxRecDepth 20000
@[simp] theorem ti89 : tiOf Tryz.prog 89 = some ⟨.map 3 3, 1, 8, [.nilmap]⟩ := by kernel_rfl
/-- The places, as a map's entries. -/
def plTo (order : List Int) : Nat → List (Int × AV)
  | 0 => []
  | n + 1 => aset (plTo order n) (order.getD n default) (.int .i64 n)
/-- The last place of a number, or 0. -/
def plc (order : List Int) : Nat → Int → Int
  | 0, _ => 0
  | n + 1, x => if x = order.getD n default then n else plc order n x
@[simp] theorem zAVv_int (k : IntKind) (n : Int) : zAVv (.int k n) = .int k n := rfl
theorem plTo_get (order : List Int) (x : Int) : ∀ n, (aget (plTo order n) x).getD (.int .i64 0) = .int .i64 (plc order n x)
  | 0 => rfl
  | n + 1 => by
    rw [plTo, aget_aset, plc]
    split
    · rfl
    · exact plTo_get order x n
def backE (order : List Int) (s : Sp) : Bool := decide (plc order order.length s.to ≤ plc order order.length s.frm)
def aheadOk (h : List Ev) (level : Int) (order : List Int) : Bool := decide (sortI order = nodesOf h) && !(stepsE level (allE h)).any (backE order)
theorem back_c (order : List Int) (s : Sp) {p m : Nat} {st : St} (hp : st p = some (.cells 89 [.map m])) (hm : isMap st m (fun n : Int => .int .i64 n) (plTo order order.length)) {K : AV → St → Prop} (hK : K (.bool (backE order s)) st) :
    dcall Tryz.prog 56 [.agg (encSp s), .box p 0] st K := by
  refine dcall_of_dwp Tryz.func56 rfl (by kernel_rfl) (by simp [Tryz.ntmps56]) ?_
  rw [Tryz.ntmps56]
  refine dwp_of_vk (by kernel_rfl) ?_
  simp
  refine newK_intro fun x hx => ?_
  obtain ⟨mo, hmo⟩ := hm.some
  have hpx : p ≠ x := fun e => by subst e; rw [hp] at hx; cases hx
  have hmx : m ≠ x := fun e => by subst e; rw [hmo] at hx; cases hx
  have hm' : isMap (st.upd x (.cells 91 (encSp s))) m (fun n : Int => .int .i64 n) (plTo order order.length) := hm.frame (upd_ne _ hmx _)
  simp [hpx, cellsAt_of hp]
  refine mget_intro intK hm' ?_
  simp only [Bool.false_eq_true, if_false, zAVv_int, plTo_get]
  simp [hpx, cellsAt_of hp]
  refine mget_intro intK hm' ?_
  simp only [Bool.false_eq_true, if_false, zAVv_int, plTo_get]
  simp [Tryz.results56]
  exact fin' (.refl _) (le_right hx (.refl _)) hK
theorem checkAhead_c (h : List Ev) (hl : h.length ≤ 300) (o : Sh.Own) (level : Int) (order : List Int) (hlo : order.length ≤ 1099511627776) (o' : Sh.Own) : PureC Tryz.prog 23 [avH h o, .int .i64 level, avI order o'] (.bool (aheadOk h level order)) := by
  refine pure_of_dwp Tryz.func23 rfl (by kernel_rfl) (by simp [Tryz.ntmps23]) fun st K hK => ?_
  rw [Tryz.ntmps23]
  refine dwp_of_vk (by kernel_rfl) ?_
  simp
  refine callK_intro (valuesI_c order o' fun a ha => ?_)
  simp
  refine callK_intro (sortedI_c (values1_c order (by omega) o' (upd_eq _ _ _)) (okFn_of Tryz.func88 (by kernel_rfl) (by kernel_rfl)) hlo (fun vis hv => by rw [hv]; exact Nat.le_refl _) fun vis hv => ?_)
  subst hv
  simp
  refine callK_pure (nodes_c h (by omega) o) ?_
  simp
  have hsl := sortI_length vis
  refine callK_pure (equalI_c (sortI vis) (nodesOf h) (by omega) .no .no) ?_
  by_cases heq : sortI vis = nodesOf h
  · simp [heq]
    refine mnew_intro (fun n : Int => .int .i64 n) fun m s0 hm0 hm hfr => ?_
    simp
    refine newK_intro fun p hp => ?_
    have hmst : st m = none := by
      simp only [upd_none_iff] at hm0; exact hm0.2
    have hle0 : St.le st s0 := fun j y e => by
      rw [hfr j (fun e' => by subst e'; rw [hmst] at e; cases e)]; exact le_right ha (.refl _) j y e
    obtain ⟨mo, hmo⟩ := hm.some
    have hmp : m ≠ p := fun e => by subst e; rw [hmo] at hp; cases hp
    have hpm := Ne.symm hmp
    have hp0 : st p = none := by
      cases hs : st p with
      | none => rfl
      | some y => rw [hle0 _ _ hs] at hp; cases hp
    simp
    refine lk_loop (α := Nat × St) (fun x => Env.ofList [(0, avH h o), (1, .int .i64 level), (8, .box p 0), (21, avI vis o'), (22, .int .i64 vis.length), (23, .int .i64 x.1)]) (fun x => x.2)
      (fun x => x.1 ≤ vis.length ∧ St.le st x.2 ∧ x.2 p = some (.cells 89 [.map m]) ∧ isMap x.2 m (fun n : Int => .int .i64 n) (plTo vis x.1)) (fun x => vis.length - x.1) (0, (s0.upd p (.cells 89 [.nilmap])).upd p (.cells 89 [.map m])) (by kernel_rfl)
      ⟨Nat.zero_le _, le_right hp0 (le_right hp0 hle0), upd_eq _ _ _, hm.frame (by show St.upd _ _ _ m = _; rw [upd_ne _ hmp, upd_ne _ hmp])⟩ (Env.sub_ofList (by simp)) (.refl _) ?_
    clear hm hfr hle0 hmo
    rintro ⟨i, s⟩ ⟨hi, hle, hp, hm⟩ R hR hX
    simp only at hi hle hp hm
    simp
    by_cases hlt : i < vis.length
    · have hw : IntKind.i64.wrap (↑i + 1) = ↑i + 1 := wrap_i64 (by omega) (by omega)
      simp [hlt, cellsAt_of hp]
      refine mset_intro intK hm fun s1 hs1 hf => ?_
      simp [hw]
      refine hR (i + 1, s1) _ _ ⟨hlt, fun j y e => ?_, (hf p hpm).trans hp, by simpa [plTo, hlt] using hs1⟩ (by simp; omega) (Env.sub_ofList (by simp [hw])) (.refl _)
      exact (hf j (fun e' => by subst e'; rw [hmst] at e; cases e)).trans (hle j y e)
    · simp [hlt]
      refine hX _ _ _ (by simp) ?_
      have : i = vis.length := by omega
      subst this
      have hal := allE_length h
      have hab : h.length * (3 * h.length) ≤ 300 * 900 := Nat.mul_le_mul hl (by omega)
      simp
      refine callK_pure (allE_c h (by omega) o) ?_
      simp
      refine callK_pure (steps_c level (allE h) (by omega) .no) ?_
      have hsl := stepsTo_length level (allE h) (allE h).length
      rw [← stepsE_to] at hsl
      have hsb : (allE h).length * ((allE h).length + 1) ≤ 270000 * 270001 := Nat.mul_le_mul (by omega) (by omega)
      simp
      refine callK_intro (contSp_c (stepsE level (allE h)) (by omega) .no 56 [.box p 0] (backE vis) (fun e _ K' hk => back_c vis e hp hm hk) ?_)
      simp [Tryz.results23]
      exact fin' (.refl _) hle (by simpa [aheadOk, heq] using hK)
  · simp [heq, Tryz.results23]
    exact fin' (.refl _) (le_right ha (.refl _)) (by simpa [aheadOk, heq] using hK)
end Go.Proofs
