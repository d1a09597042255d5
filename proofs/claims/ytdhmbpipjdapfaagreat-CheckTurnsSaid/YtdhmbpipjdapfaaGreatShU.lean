/- Shadow logic, part U: loops over functions, in the form for simp. -/
import Derived.Test.YtdhmbpipjdapfaaGreatShT
namespace Go.Sh
open Go.RowKit
section
variable {P : Program} {n : Nat} {Q : Exit → Env → St → Prop} {env : Env} {st : St} {k : Kont}
/-- How a loop over a function is left. -/
def loopK (P : Program) (n : Nat) (k : Kont) (Q : Exit → Env → St → Prop) (env : Env) (st2 : St) : Option Code → Prop
  | none => kk P n .normal k Q env st2
  | some .ret => kk P n .ret k Q env st2
  | some (.exit i) => kk P n (.exit i) k Q env st2
  | _ => False
theorem lk_rangeFunc {g : Operand} {ps : Array Tmp} {assign body : Code} {gf : FuncId} {caps : List AV} (hg : env.op g = .fn gf caps)
    (h : ∀ id, st id = none → dcall P gf (.yld id :: caps) (st.upd id (.loop n env ps assign body none)) fun _ st2 => ∃ left, st2 id = some (.loop n env ps assign body left) ∧ loopK P n k Q env (st2.del id) left) :
    lk P n (.rangeFunc g ps assign body) k Q env st := by
  refine dwp_rangeFunc hg fun id hid => dcall_mono (fun v s => ?_) (h id hid)
  rintro ⟨left, h1, h2⟩
  rw [h1]
  unfold loopK at h2
  split at h2
  · exact h2
  · exact dwp_ret h2
  · exact dwp_exit h2
  · exact h2.elim
def roundR (R : Option Code → St → Prop) : Exit → Env → St → Prop
  | .normal, _, st => R none st
  | .ret, _, st => R (some .ret) st
  | .exit i, _, st => R (some (.exit i)) st
  | .goto l, _, st => R (some (.goto l)) st
  | _, _, _ => False
/-- Code that ends where it ends. -/
def straight : Code → Bool
  | .skip => true
  | .seq a b => straight a && straight b
  | .region _ _ false => true
  | _ => false
theorem vc_straight : ∀ (c : Code) {Q Q' : Exit → Env → St → Prop}, straight c = true → Q .normal = Q' .normal → vc P n c Q = vc P n c Q' := by
  intro c
  induction c with
  | skip => intro Q Q' _ h; funext env st; show Q .normal env st = _; rw [h]; rfl
  | seq a b iha ihb =>
    intro Q Q' hs h
    simp only [straight, Bool.and_eq_true] at hs
    funext env st
    have := iha (Q := thenQ (fun e s => vc P n b Q e s) Q) (Q' := thenQ (fun e s => vc P n b Q' e s) Q') hs.1 (by show (fun e s => vc P n b Q e s) = _; rw [ihb hs.2 h]; rfl)
    show vc P n a (thenQ (fun e s => vc P n b Q e s) Q) env st = _
    rw [this]; rfl
  | region _ ops d =>
    intro Q Q' hs h
    cases d with
    | false => funext env st; show vcs _ _ _ _ _ _ (Q .normal) = _; rw [h]; rfl
    | true => cases hs
  | _ => intro Q Q' hs h; cases hs
/-- A round, where the loop is known. -/
theorem dround_intro {id : Nat} {args : List AV} {n0 : Nat} {env0 : Env} {ps : Array Tmp} {assign body : Code} {K : AV → St → Prop}
    (h1 : args.length = ps.size) (h2 : (ps.toList.all fun p => decide (p < n0)) = true) (hc0 : straight assign = true) (hc1 : codeOk n0 assign = true) (hc2 : codeOk n0 body = true)
    (h : ∀ R : Option Code → St → Prop, (∀ left s, K (.bool left.isNone) (s.upd id (.loop n0 env0 ps assign body left)) → R left s) →
      vk P n0 assign (.seq body .base) (roundR R) (putAll env0 (ps.toList.zip args)) (st.del id)) :
    dround P id args (some (.loop n0 env0 ps assign body none)) st K := by
  have h' := h (fun left s => K (.bool left.isNone) (s.upd id (.loop n0 env0 ps assign body left))) fun _ _ h => h
  have h'' : vc P n0 assign (onlyQ fun e1 s1 => vc P n0 body (roundR fun left s => K (.bool left.isNone) (s.upd id (.loop n0 env0 ps assign body left))) e1 s1) (putAll env0 (ps.toList.zip args)) (st.del id) := by
    rw [vc_straight assign hc0 (Q' := QK P n0 (roundR fun left s => K (.bool left.isNone) (s.upd id (.loop n0 env0 ps assign body left))) (.seq body .base))]
    · exact h'
    · rfl
  refine ⟨h1, h2, dwp_mono (fun e env st hk => ?_) (vc_sound assign hc1 h'')⟩
  cases e <;> first | exact hk.elim | skip
  refine dwp_mono (fun e env st hk => ?_) (vc_sound body hc2 hk)
  cases e <;> exact hk
def loopLeft (c : Code) : AObj → AObj
  | .loop n env ps a b _ => .loop n env ps a b (some c)
  | x => x
@[simp] theorem loopLeft_loop {c : Code} {n0 : Nat} {env0 : Env} {ps : Array Tmp} {assign body : Code} {left : Option Code} : loopLeft c (.loop n0 env0 ps assign body left) = .loop n0 env0 ps assign body (some c) := Eq.trans rfl rfl
theorem dround_intro' {id : Nat} {args : List AV} {n0 : Nat} {env0 : Env} {ps : Array Tmp} {assign body : Code} {K : AV → St → Prop} {o : Option AObj} {O : AObj}
    (hO : AObj.loop n0 env0 ps assign body none = O) (ho : o = some O)
    (h1 : args.length = ps.size) (h2 : (ps.toList.all fun p => decide (p < n0)) = true) (hc0 : straight assign = true) (hc1 : codeOk n0 assign = true) (hc2 : codeOk n0 body = true)
    (h : ∀ R : Option Code → St → Prop, (∀ s, K (.bool true) (s.upd id O) → R none s) → (∀ c s, K (.bool false) (s.upd id (loopLeft c O)) → R (some c) s) →
      vk P n0 assign (.seq body .base) (roundR R) (putAll env0 (ps.toList.zip args)) (st.del id)) :
    dround P id args o st K := by
  rw [ho, ← hO]
  exact dround_intro h1 h2 hc0 hc1 hc2 fun R hR => h R (fun s hs => hR none s (by rw [hO]; exact hs)) fun c s hs => hR (some c) s (by rw [← hO] at hs; exact hs)
@[simp] theorem roundR_normal {R : Option Code → St → Prop} : roundR R .normal env st = R none st := Eq.trans rfl rfl
@[simp] theorem roundR_ret {R : Option Code → St → Prop} : roundR R .ret env st = R (some .ret) st := Eq.trans rfl rfl
@[simp] theorem roundR_exit {R : Option Code → St → Prop} {i : Nat} : roundR R (.exit i) env st = R (some (.exit i)) st := Eq.trans rfl rfl
@[simp] theorem onlyQ_normal {K : Env → St → Prop} : onlyQ K .normal env st = K env st := Eq.trans rfl rfl
@[simp] theorem putAll_nil : putAll env [] = env := Eq.trans rfl rfl
@[simp] theorem putAll_cons {d : Nat} {v : AV} {r : List (Nat × AV)} : putAll env ((d, v) :: r) = putAll (env.put (some d) v) r := Eq.trans rfl rfl
@[simp] theorem loopK_none {st2 : St} : loopK P n k Q env st2 none = kk P n .normal k Q env st2 := Eq.trans rfl rfl
@[simp] theorem loopK_ret {st2 : St} : loopK P n k Q env st2 (some .ret) = kk P n .ret k Q env st2 := Eq.trans rfl rfl
@[simp] theorem loopK_exit {st2 : St} {i : Nat} : loopK P n k Q env st2 (some (.exit i)) = kk P n (.exit i) k Q env st2 := Eq.trans rfl rfl
end
section
variable {P : Program} {n : Nat} {Q : Exit → Env → St → Prop} {env : Env} {st : St} {k : Kont} {dsts : List (Option Nat)} {l : List Oper} {d : Option Nat}
theorem dround_weaken {id : Nat} {args : List AV} {K : AV → St → Prop} {s s' : St} {o : AObj} (hs : St.le s s') (ho : s id = some o) (h : dround P id args (s id) s K) : dround P id args (s' id) s' K := by
  rw [ho] at h
  rw [hs id o ho]
  unfold dround at h ⊢
  split at h
  · refine ⟨h.1, h.2.1, dwp_weaken (fun _ => .refl _) (fun i x e => ?_) h.2.2⟩
    simp only [St.del] at e ⊢
    split at e
    · cases e
    · rename_i hi; rw [if_neg hi]; exact hs i x e
  · exact h.elim
theorem callK_intro {f : FuncId} {as : List AV} (h : dcall P f as st fun v st' => vo P n dsts l k Q (env.put d v) st') : callK P n f as d dsts l k Q env st := h
theorem yieldK_intro {id : Nat} {as : List AV} (h : dround P id as (st id) st fun v st' => vo P n dsts l k Q (env.put d v) st') : yieldK P n id as d dsts l k Q env st := h
theorem cellsAt_of {id : Nat} {t : TypeId} {cs : List AV} (h : st id = some (.cells t cs)) : cellsAt st id = some (t, cs) := by simp [cellsAt, h]
def cellsO : AObj → Option (TypeId × List AV)
  | .cells t cs => some (t, cs)
  | _ => none
@[simp] theorem cellsO_cells {t : TypeId} {cs : List AV} : cellsO (.cells t cs) = some (t, cs) := Eq.trans rfl rfl
@[simp] theorem cellsO_loop {n0 : Nat} {env0 : Env} {ps : Array Tmp} {assign body : Code} {left : Option Code} : cellsO (.loop n0 env0 ps assign body left) = none := Eq.trans rfl rfl
@[simp] theorem cellsAt_upd {i j : Nat} {o : AObj} : cellsAt (st.upd i o) j = if j = i then cellsO o else cellsAt st j := by
  unfold cellsAt St.upd
  by_cases h : j = i
  · simp only [if_pos h]
    cases o <;> simp [cellsO]
  · simp only [if_neg h]
@[simp] theorem cellsAt_del {i j : Nat} : cellsAt (st.del i) j = if j = i then none else cellsAt st j := by
  unfold cellsAt St.del
  by_cases h : j = i <;> simp [h]
@[simp] theorem upd_app {i j : Nat} {o : AObj} : (st.upd i o) j = if j = i then some o else st j := Eq.trans rfl rfl
@[simp] theorem del_app {i j : Nat} : (st.del i) j = if j = i then none else st j := Eq.trans rfl rfl
theorem le_left {A B : St} {i : Nat} {o : AObj} (h : B i = some o) (k : St.le A B) : St.le (A.upd i o) B := by
  intro j y e
  simp only [St.upd] at e
  split at e
  · rename_i hj; rw [hj, h]; exact e
  · exact k j y e
theorem le_right {A B : St} {i : Nat} {o : AObj} (h : A i = none) (k : St.le A B) : St.le A (B.upd i o) := by
  intro j y e
  have : j ≠ i := by rintro rfl; rw [h] at e; cases e
  rw [upd_ne _ this]; exact k j y e
theorem le_del {A B : St} {i : Nat} (h : A i = none) (k : St.le A B) : St.le A (B.del i) := by
  intro j y e
  have : j ≠ i := by rintro rfl; rw [h] at e; cases e
  simp only [St.del, if_neg this]; exact k j y e
theorem del_none {i j : Nat} (h : (st.del i) j = none) : j = i ∨ st j = none := by
  simp only [St.del] at h
  split at h
  · exact .inl (by assumption)
  · exact .inr h
end
end Go.Sh
