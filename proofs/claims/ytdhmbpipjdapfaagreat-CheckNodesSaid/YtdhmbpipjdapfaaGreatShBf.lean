import Derived.Test.YtdhmbpipjdapfaaGreatShBe
import Derived.Scope
set_option linter.unusedSimpArgs false
set_option linter.unusedVariables false

/- Shadow logic, part S: conditions by computation. -/
namespace Go.Sh
open Go.RowKit
section
variable {P : Program} {n : Nat}

/-! ### values of a test, behind which nothing is looked into -/
def testVC (x : AV) (A B : Prop) : Prop := (x = .bool true ∧ A) ∨ (x = .bool false ∧ B)
theorem testVC_true {A B : Prop} : testVC (.bool true) A B = A := by simp [testVC]
theorem testVC_false {A B : Prop} : testVC (.bool false) A B = B := by simp [testVC]
theorem testVC_dec {c : Prop} [Decidable c] {A B : Prop} : testVC (.bool (decide c)) A B ↔ if c then A else B := by
  by_cases h : c <;> simp [testVC, h]
theorem testVC_congr {x x' : AV} {A B : Prop} (h : x = x') : testVC x A B = testVC x' A B := by rw [h]

def dstAt (dsts : List (Option Nat)) (j : Nat) : Nat := (dsts.getD j none).getD 0
def guardAV (w : Bool) : AV → AV
  | .bool b => .bool (b == w)
  | .tup _ => .bool false
  | _ => .undef
def vcs (P : Program) (n : Nat) (dsts : List (Option Nat)) : List Oper → Env → St → (Env → St → Prop) → Prop
  | [], env, st, K => K env st
  | o :: r, env, st, K => match o.guard with
    | none => resK P (evalOp P env.op o.op) st (fun v st' => vcs P n dsts r (env.put o.dst v) st' K)
    | some (j, w) => testVC (guardAV w (env (dstAt dsts j))) (resK P (evalOp P env.op o.op) st (fun v st' => vcs P n dsts r (env.put o.dst v) st' K)) (vcs P n dsts r (env.put o.dst (.tup [])) st K)
/-- What needs no look at values. -/
def opsOk (n : Nat) (ops : List Oper) : Bool := ops.all fun o => gOk (ops.map (·.dst)) o.guard && dstOk n o.dst
theorem dround_mono {id : Nat} {args : List AV} {o : Option AObj} {st : St} {K K' : AV → St → Prop} (h : ∀ v s, K v s → K' v s) (hr : dround P id args o st K) : dround P id args o st K' := by
  unfold dround at hr ⊢
  split at hr
  · refine ⟨hr.1, hr.2.1, dwp_mono (fun e env st hk => ?_) hr.2.2⟩
    cases e <;> try exact hk
    refine dwp_mono (fun e env st hk => ?_) hk
    cases e <;> first | exact ⟨hk.1, h _ _ hk.2⟩ | exact hk
  · exact hr.elim
theorem resK_mono {r : ORes} {st : St} {K K' : AV → St → Prop} (h : ∀ v s, K v s → K' v s) (hr : resK P r st K) : resK P r st K' := by
  cases r with
  | val v => exact h _ _ hr
  | load id off m ag => obtain ⟨t, cs, h1, h2, h3⟩ := resK_load hr; unfold resK; simp only [h1]; exact ⟨h2, h _ _ h3⟩
  | store id off vs => obtain ⟨t, cs, h1, h2, h3⟩ := resK_store hr; unfold resK; simp only [h1]; exact ⟨h2, h _ _ h3⟩
  | new t cs => exact fun id hid => h _ _ (hr id hid)
  | lit sz xs => exact h _ _ hr
  | app e sz by_ xs ys o =>
    rcases hr with ⟨st0, h1, h2⟩ | ⟨h1, h2, h3, h4⟩
    · exact .inl ⟨st0, h1, fun o' st' ho => h _ _ (h2 o' st' ho)⟩
    · exact .inr ⟨h1, h2, fun e => h _ _ (h3 e), fun e id c k1 k2 k3 => h _ _ (h4 e id c k1 k2 k3)⟩
  | appr e sz by_ id off n c ys =>
    unfold resK at hr ⊢
    simp only at hr ⊢
    by_cases hc : c = 0
    · rw [if_pos hc] at hr ⊢
      exact ⟨hr.1, fun e => h _ _ (hr.2.1 e), fun e i c' k1 k2 k3 => h _ _ (hr.2.2 e i c' k1 k2 k3)⟩
    rw [if_neg hc] at hr ⊢
    split at hr
    · obtain ⟨h1, h2, h3, h4, h5⟩ := hr
      exact ⟨h1, h2, h3, fun e => h _ _ (h4 e), fun e i c' k1 k2 k3 => h _ _ (h5 e i c' k1 k2 k3)⟩
    · exact hr.elim
  | mnew => exact fun id hid => h _ _ (hr id hid)
  | mget id k key ok z =>
    unfold resK at hr ⊢
    simp only at hr ⊢
    split at hr
    · split at hr
      · exact h _ _ hr
      · exact h _ _ hr
      · exact hr.elim
    · exact hr.elim
  | mset id k key v =>
    unfold resK at hr ⊢
    simp only at hr ⊢
    split at hr
    · split at hr
      · exact h _ _ hr
      · exact h _ _ hr
      · exact hr.elim
    · exact hr.elim
  | mdel id k key =>
    unfold resK at hr ⊢
    simp only at hr ⊢
    split at hr
    · split at hr
      · exact h _ _ hr
      · exact h _ _ hr
      · exact hr.elim
    · exact hr.elim
  | mlen id =>
    unfold resK at hr ⊢
    simp only at hr ⊢
    split at hr
    · exact h _ _ hr
    · exact hr.elim
  | mrange id =>
    unfold resK at hr ⊢
    simp only at hr ⊢
    split at hr
    · exact fun i hi => h _ _ (hr i hi)
    · exact hr.elim
  | mnext id =>
    unfold resK at hr ⊢
    simp only at hr ⊢
    split at hr
    · split at hr
      · exact ⟨hr.1, hr.2.1, fun e => h _ _ (hr.2.2.1 e), fun e he => h _ _ (hr.2.2.2 e he)⟩
      · exact hr.elim
    · exact hr.elim
  | mentry id =>
    unfold resK at hr ⊢
    simp only at hr ⊢
    split at hr
    · split at hr
      · obtain ⟨h1, h2, e, s', h3, h4, h5⟩ := hr
        exact ⟨h1, h2, e, s', h3, h4, h _ _ h5⟩
      · exact hr.elim
    · exact hr.elim
  | clr id off m =>
    unfold resK at hr ⊢
    simp only at hr ⊢
    refine ⟨fun e => h _ _ (hr.1 e), fun e => ?_⟩
    have hr := hr.2 e
    cases hs : st id with
    | none => rw [hs] at hr; exact hr.elim
    | some x => cases x <;> rw [hs] at hr <;> first | exact ⟨hr.1, h _ _ hr.2⟩ | exact hr.elim
  | call f args =>
    obtain ⟨h1, h2⟩ := hr
    exact ⟨h1, fun B w0 M w vals hI hv => (h2 B w0 M w vals hI hv).mono fun e w' ⟨x, M', v, st', k1, k2, k3, k4, k5⟩ => ⟨x, M', v, st', k1, k2, k3, k4, h _ _ k5⟩⟩
  | yield id args => exact dround_mono h hr
  | stuck => exact hr.elim
theorem dcall_mono {f : FuncId} {args : List AV} {st : St} {K K' : AV → St → Prop} (h : ∀ v s, K v s → K' v s) (hr : dcall P f args st K) : dcall P f args st K' := resK_mono (r := .call f args) h hr
theorem vcs_ops {dsts : List (Option Nat)} {K : Env → St → Prop} : ∀ (l : List Oper) {env : Env} {st : St}, (l.all fun o => gOk dsts o.guard && dstOk n o.dst) = true → vcs P n dsts l env st K → vcOps P n dsts l env st K
  | [], _, _, _, h => h
  | o :: r, env, st, hc, h => by
    simp only [List.all_cons, Bool.and_eq_true] at hc
    refine ⟨hc.1.1, hc.1.2, ?_⟩
    unfold vcs at h
    cases hg : o.guard with
    | none =>
      simp only [hg, gslot, guardV] at h ⊢
      exact resK_mono (fun v s hk => vcs_ops r hc.2 hk) h
    | some p =>
      obtain ⟨j, w⟩ := p
      have hj : gslot dsts (some (j, w)) = some (dstAt dsts j, w) := by
        simp only [gslot, dstAt, List.getD_eq_getElem?_getD]
        generalize dsts[j]? = y
        rcases y with _ | _ | s <;> rfl
      simp only [hg, hj, guardV] at h ⊢
      cases he : env (dstAt dsts j) <;> simp only [he, guardAV] at h ⊢ <;> try (simp [testVC] at h; done)
      case tup vs =>
        simp only [testVC, AV.bool.injEq, Bool.false_eq_true, false_and, false_or, true_and] at h
        exact vcs_ops r hc.2 h
      rename_i b
      by_cases hb : b == w
      · simp only [hb, testVC, true_and, AV.bool.injEq, Bool.true_eq_false, false_and, or_false] at h ⊢
        exact resK_mono (fun v s hk => vcs_ops r hc.2 hk) h
      · have hb' : (b == w) = false := by simpa using hb
        simp only [hb', testVC, AV.bool.injEq, Bool.false_eq_true, false_and, false_or, true_and] at h ⊢
        exact vcs_ops r hc.2 h

/-! ### a scope, if no jump leaves it -/
theorem stepR_scope {b : Frame} {a : Act} {k : List Item} {cs : List Frame} {w : World} {c : Code} : step P (lone (b.atR a (.code (.scope c) :: k)) cs w) = .next (lone (b.atR a (.code c :: .inScope c :: k)) cs w) :=
  step_lone_go (by simp [stepG, stepG.exec, Frame.atR])
theorem stepR_inScope {b : Frame} {a : Act} {k : List Item} {cs : List Frame} {w : World} {c : Code} : step P (lone (b.atR a (.inScope c :: k)) cs w) = .next (lone (b.atR a k) cs w) :=
  step_lone_go (by simp [stepG, stepG.exec, Frame.atR])
theorem wpIn_scope_straight {F : Fence} {m : Nat} {Q : Exit → Act → World → Prop} {a : Act} {w : World} {c : Code} (h : c.wpIn F m P (Exit.noGoto Q) a w) : (Code.scope c).wpIn F m P Q a w := by
  intro b k cs hro hb hr
  have h0 : (lone (b.atR a (.code (.scope c) :: k)) cs w).fenced P F := fenced_calm hb hr rfl
  obtain ⟨e, a₁, w₁, hq, harr⟩ := h b (.inScope c :: k) cs hro hb hr
  cases e with
  | normal => exact ⟨.normal, a₁, w₁, hq, .head h0 stepR_scope (StepsIn.trans harr (.one (fenced_calm hb hr rfl) stepR_inScope))⟩
  | exit id =>
    have hx : exitTo id (.inScope c :: k) = exitTo id k := by simp [exitTo]
    exact ⟨.exit id, a₁, w₁, hq, fun k' hk => .head h0 stepR_scope (harr.1 k' (by rw [hx]; exact hk)),
      fun hr' hk => let ⟨k₁, h1, h2⟩ := harr.2 hr' (by rw [hx]; exact hk); ⟨k₁, h1, .head h0 stepR_scope h2⟩⟩
  | goto l => exact hq.elim
  | ret => exact ⟨_, a₁, w₁, hq, .of_steps (.one h0 stepR_scope) harr⟩
  | panic ch => exact ⟨_, a₁, w₁, hq, .of_steps (.one h0 stepR_scope) harr⟩
  | outgrown => exact ⟨_, a₁, w₁, hq, .of_steps (.one h0 stepR_scope) harr⟩
def scopeQ (Q : Exit → Env → St → Prop) : Exit → Env → St → Prop
  | .goto _ => fun _ _ => False
  | e => Q e
theorem dwp_scope {Q : Exit → Env → St → Prop} {env : Env} {st : St} {c : Code} (h : dwp P n c (scopeQ Q) env st) : dwp P n (.scope c) Q env st := by
  intro B w0 M a w hI hE
  refine wpIn_scope_straight (wpIn_mono (h B w0 M a w hI hE) fun e a' w' hp => ?_)
  cases e with
  | goto l => obtain ⟨_, _, _, _, _, _, h⟩ := hp; exact h.elim
  | _ => exact hp

def vc (P : Program) (n : Nat) : Code → (Exit → Env → St → Prop) → Env → St → Prop
  | .skip, Q, env, st => Q .normal env st
  | .label _, Q, env, st => Q .normal env st
  | .ret, Q, env, st => Q .ret env st
  | .exit id, Q, env, st => Q (.exit id) env st
  | .goto l, Q, env, st => Q (.goto l) env st
  | .seq a b, Q, env, st => vc P n a (thenQ (fun e s => vc P n b Q e s) Q) env st
  | .cond x a b, Q, env, st => testVC (env.op x) (vc P n a Q env st) (vc P n b Q env st)
  | .block id a, Q, env, st => vc P n a (blockQ id Q) env st
  | .scope a, Q, env, st => vc P n a (scopeQ Q) env st
  | .region id ops false, Q, env, st => vcs P n (ops.toList.map (·.dst)) ops.toList env st (Q .normal)
  | c, Q, env, st => dwp P n c Q env st
/-- What needs no look at values, of a body. -/
def codeOk (n : Nat) : Code → Bool
  | .seq a b => codeOk n a && codeOk n b
  | .cond _ a b => codeOk n a && codeOk n b
  | .block _ a => codeOk n a
  | .scope a => codeOk n a
  | .region _ ops false => opsOk n ops.toList
  | _ => true
theorem vc_sound : ∀ (c : Code) {Q : Exit → Env → St → Prop} {env : Env} {st : St}, codeOk n c = true → vc P n c Q env st → dwp P n c Q env st := by
  intro c
  induction c with
  | skip => intro Q env st _ h; exact dwp_skip h
  | label l => intro Q env st _ h; exact dwp_label h
  | ret => intro Q env st _ h; exact dwp_ret h
  | exit _ => intro Q env st _ h; exact dwp_exit h
  | goto l => intro Q env st _ h; exact dwp_goto h
  | seq a b iha ihb =>
    intro Q env st hc h
    simp only [codeOk, Bool.and_eq_true] at hc
    refine dwp_seq (dwp_mono (fun e env st hk => ?_) (iha hc.1 h))
    cases e with
    | normal => exact ihb hc.2 hk
    | _ => exact hk
  | cond x a b iha ihb =>
    intro Q env st hc h
    simp only [codeOk, Bool.and_eq_true] at hc
    rcases h with ⟨hx, h⟩ | ⟨hx, h⟩
    · exact dwp_cond hx (fun _ => iha hc.1 h) (fun e => by cases e)
    · exact dwp_cond hx (fun e => by cases e) (fun _ => ihb hc.2 h)
  | block _ a iha => intro Q env st hc h; exact dwp_block (iha hc h)
  | region _ ops d =>
    intro Q env st hc h
    cases d with
    | false => exact dwp_region (vcs_ops _ hc h)
    | true => exact h
  | loop a _ => intro Q env st _ h; exact h
  | rangeFunc f ps a b _ _ => intro Q env st _ h; exact h
  | scope a iha => intro Q env st hc h; exact dwp_scope (iha hc h)
  | refuse w => intro Q env st _ h; exact h

/-! ### the rules, for simp -/
section
variable {Q : Exit → Env → St → Prop} {env : Env} {st : St} {K : AV → St → Prop}
theorem vc_skip : vc P n .skip Q env st = Q .normal env st := rfl
theorem vc_label {l : Nat} : vc P n (.label l) Q env st = Q .normal env st := rfl
theorem vc_ret : vc P n .ret Q env st = Q .ret env st := rfl
theorem vc_exit {id : Nat} : vc P n (.exit id) Q env st = Q (.exit id) env st := rfl
theorem vc_seq {a b : Code} : vc P n (.seq a b) Q env st = vc P n a (thenQ (fun e s => vc P n b Q e s) Q) env st := rfl
theorem vc_cond {x : Operand} {a b : Code} : vc P n (.cond x a b) Q env st = testVC (env.op x) (vc P n a Q env st) (vc P n b Q env st) := rfl
theorem vc_block {id : Nat} {a : Code} : vc P n (.block id a) Q env st = vc P n a (blockQ id Q) env st := rfl
theorem vc_region {id : Nat} {ops : List Oper} : vc P n (.region id ops.toArray false) Q env st = vcs P n (ops.map (·.dst)) ops env st (Q .normal) := rfl
theorem vc_draw {id : Nat} {ops : Array Oper} : vc P n (.region id ops true) Q env st = dwp P n (.region id ops true) Q env st := rfl
theorem vc_loop {a : Code} : vc P n (.loop a) Q env st = dwp P n (.loop a) Q env st := rfl
theorem vcs_nil {dsts : List (Option Nat)} {K : Env → St → Prop} : vcs P n dsts [] env st K = K env st := rfl
theorem vcs_plain {dsts : List (Option Nat)} {K : Env → St → Prop} {d : Option Nat} {op : Op} {t : TypeId} {p : String} {af : Array Edge} {r : List Oper} :
    vcs P n dsts (⟨d, op, t, p, af, none⟩ :: r) env st K = resK P (evalOp P env.op op) st (fun v st' => vcs P n dsts r (env.put d v) st' K) := rfl
theorem vcs_guard {dsts : List (Option Nat)} {K : Env → St → Prop} {d : Option Nat} {op : Op} {t : TypeId} {p : String} {af : Array Edge} {r : List Oper} {j : Nat} {w : Bool} :
    vcs P n dsts (⟨d, op, t, p, af, some (j, w)⟩ :: r) env st K = testVC (guardAV w (env (dstAt dsts j))) (resK P (evalOp P env.op op) st (fun v st' => vcs P n dsts r (env.put d v) st' K)) (vcs P n dsts r (env.put d (.tup [])) st K) := rfl
@[simp] theorem guardAV_tup (w : Bool) (vs : List AV) : guardAV w (.tup vs) = .bool false := Eq.trans rfl rfl
theorem guardAV_bool (w b : Bool) : guardAV w (.bool b) = .bool (b == w) := Eq.trans rfl rfl
theorem thenQ_normal {K : Env → St → Prop} : thenQ K Q .normal = K := rfl
theorem thenQ_ret {K : Env → St → Prop} : thenQ K Q .ret = Q .ret := rfl
theorem thenQ_exit {K : Env → St → Prop} {i : Nat} : thenQ K Q (.exit i) = Q (.exit i) := rfl
theorem thenQ_goto {K : Env → St → Prop} {i : Nat} : thenQ K Q (.goto i) = Q (.goto i) := rfl
theorem blockQ_normal {id : Nat} : blockQ id Q .normal = Q .normal := rfl
theorem blockQ_ret {id : Nat} : blockQ id Q .ret = Q .ret := rfl
theorem blockQ_goto {id i : Nat} : blockQ id Q (.goto i) = Q (.goto i) := rfl
theorem blockQ_exit {id i : Nat} : blockQ id Q (.exit i) = if i = id then Q .normal else Q (.exit i) := rfl
theorem put_app (e : Env) (d : Nat) (v : AV) (i : Nat) : (Env.put e (some d) v) i = if i = d then v else e i := Eq.trans rfl rfl
theorem put_none (e : Env) (v : AV) : Env.put e none v = e := Eq.trans rfl rfl
theorem ofList_app (d : Nat) (v : AV) (r : List (Nat × AV)) (i : Nat) : (Env.ofList ((d, v) :: r)) i = if i = d then v else Env.ofList r i := Eq.trans rfl rfl
theorem ofList_nil (i : Nat) : (Env.ofList []) i = .undef := Eq.trans rfl rfl
theorem args_app (v : AV) (r : List AV) (k i : Nat) : (Env.args (v :: r) k) i = if i = k then v else Env.args r (k + 1) i := Eq.trans rfl rfl
theorem args_nil (k i : Nat) : (Env.args [] k) i = .undef := Eq.trans rfl rfl
theorem op_tmp (e : Env) (t : Nat) : Env.op e (.tmp t) = e t := Eq.trans rfl rfl
theorem op_const (e : Env) (v : Value) : Env.op e (.const v) = zAV v := Eq.trans rfl rfl
theorem op_func (e : Env) (f : FuncId) : Env.op e (.func f) = .fn f [] := Eq.trans rfl rfl
theorem resK_new {t : TypeId} {cs : List AV} : resK P (.new t cs) st K = ∀ id, st id = none → K (.box id 0) (st.upd id (.cells t cs)) := rfl
theorem resK_lit {sz : Nat} {xs : List (List AV)} : resK P (.lit sz xs) st K = K (.list sz xs .clip) st := rfl
theorem resK_call {f : FuncId} {args : List AV} : resK P (.call f args) st K = dcall P f args st K := rfl
/-- What a box holds. -/
def cellsAt (st : St) (id : Nat) : Option (TypeId × List AV) := match st id with | some (.cells t cs) => some (t, cs) | _ => none
def loadVC (c : Option (TypeId × List AV)) (off n : Nat) (ag : Bool) (K : AV → Prop) : Prop := match c with
  | some (_, cs) => off + n ≤ cs.length ∧ K (if ag then .agg ((cs.drop off).take n) else cs.getD off .undef)
  | none => False
def storeVC (c : Option (TypeId × List AV)) (off : Nat) (vs : List AV) (K : AObj → Prop) : Prop := match c with
  | some (t, cs) => off + vs.length ≤ cs.length ∧ K (.cells t (spliceL cs off vs))
  | none => False
theorem cellsAt_some {id : Nat} {t : TypeId} {cs : List AV} (h : cellsAt st id = some (t, cs)) : st id = some (.cells t cs) := by
  unfold cellsAt at h
  split at h
  · rename_i t' cs' he; injection h with h; injection h with h1 h2; rw [he, h1, h2]
  · cases h
theorem resK_load' {id off m : Nat} {ag : Bool} : resK P (.load id off m ag) st K = loadVC (cellsAt st id) off m ag (fun v => K v st) := by
  apply propext
  constructor
  · intro h
    obtain ⟨t, cs, h1, h2, h3⟩ := resK_load h
    have : cellsAt st id = some (t, cs) := by simp [cellsAt, h1]
    rw [this]; exact ⟨h2, h3⟩
  · intro h
    unfold loadVC at h
    split at h
    · rename_i t cs he
      have := cellsAt_some he
      unfold resK; simp only [this]; exact h
    · exact h.elim
theorem resK_store' {id off : Nat} {vs : List AV} : resK P (.store id off vs) st K = storeVC (cellsAt st id) off vs (fun o => K .undef (st.upd id o)) := by
  apply propext
  constructor
  · intro h
    obtain ⟨t, cs, h1, h2, h3⟩ := resK_store h
    have : cellsAt st id = some (t, cs) := by simp [cellsAt, h1]
    rw [this]; exact ⟨h2, h3⟩
  · intro h
    unfold storeVC at h
    split at h
    · rename_i t cs he
      have := cellsAt_some he
      unfold resK; simp only [this]; exact h
    · exact h.elim
theorem loadVC_some {t : TypeId} {cs : List AV} {off m : Nat} {ag : Bool} {K : AV → Prop} : loadVC (some (t, cs)) off m ag K = (off + m ≤ cs.length ∧ K (if ag then .agg ((cs.drop off).take m) else cs.getD off .undef)) := rfl
theorem storeVC_some {t : TypeId} {cs : List AV} {off : Nat} {vs : List AV} {K : AObj → Prop} : storeVC (some (t, cs)) off vs K = (off + vs.length ≤ cs.length ∧ K (.cells t (spliceL cs off vs))) := rfl
theorem cellsAt_upd_same (id : Nat) (t : TypeId) (cs : List AV) : cellsAt (st.upd id (.cells t cs)) id = some (t, cs) := by simp [cellsAt, St.upd]
theorem cellsAt_upd_ne {id i : Nat} (h : i ≠ id) (o : AObj) : cellsAt (st.upd id o) i = cellsAt st i := by simp [cellsAt, St.upd, h]
theorem upd_none_iff {id i : Nat} {o : AObj} : (st.upd id o) i = none ↔ i ≠ id ∧ st i = none := by
  simp only [St.upd]
  by_cases h : i = id <;> simp [h]
theorem le_upd {id : Nat} (h : st id = none) (o : AObj) : St.le st (st.upd id o) := by
  intro i x hi
  have : i ≠ id := fun e => by rw [e, h] at hi; cases hi
  rw [upd_ne _ this]; exact hi
theorem St.le.trans {a b c : St} (h : St.le a b) (k : St.le b c) : St.le a c := fun i o e => k i o (h i o e)
theorem resAV_one {t : Nat} : resAV P env st [.tmp t] = some (env t) := Eq.trans rfl rfl
theorem resAV_two {t u : Nat} : resAV P env st [.tmp t, .tmp u] = some (.tup [env t, env u]) := Eq.trans rfl rfl
theorem resAV_none : resAV P env st [] = some (.tup []) := Eq.trans rfl rfl

theorem retQ_ret {fn : Func} : retQ P fn K .ret env st = ∃ r, resAV P env st fn.results.toList = some r ∧ ∃ r' st', AV.sub r' r ∧ St.le st' st ∧ K r' st' := Eq.trans rfl rfl
theorem retQ_normal {fn : Func} : retQ P fn K .normal env st = ∃ r, resAV P env st fn.results.toList = some r ∧ ∃ r' st', AV.sub r' r ∧ St.le st' st ∧ K r' st' := Eq.trans rfl rfl
/-- The end of a function whose results are temporaries. -/
theorem ret_done {r : AV} {r' : AV} {st' : St} (hs : AV.sub r' r) (hl : St.le st' st) (hK : K r' st') : ∃ x, some r = some x ∧ ∃ r' st', AV.sub r' x ∧ St.le st' st ∧ K r' st' := ⟨r, rfl, r', st', hs, hl, hK⟩

end

/-! ### the same, with what follows as data: simp looks at what stands next alone -/
inductive Kont where
  | base
  | seq (b : Code) (k : Kont)
  | block (id : Nat) (k : Kont)
  | scope (k : Kont)
def QK (P : Program) (n : Nat) (Q : Exit → Env → St → Prop) : Kont → Exit → Env → St → Prop
  | .base => Q
  | .seq b k => thenQ (fun e s => vc P n b (QK P n Q k) e s) (QK P n Q k)
  | .block id k => blockQ id (QK P n Q k)
  | .scope k => scopeQ (QK P n Q k)
def vk (P : Program) (n : Nat) (c : Code) (k : Kont) (Q : Exit → Env → St → Prop) (env : Env) (st : St) : Prop := vc P n c (QK P n Q k) env st
def kk (P : Program) (n : Nat) (x : Exit) (k : Kont) (Q : Exit → Env → St → Prop) (env : Env) (st : St) : Prop := QK P n Q k x env st
def vo (P : Program) (n : Nat) (dsts : List (Option Nat)) (l : List Oper) (k : Kont) (Q : Exit → Env → St → Prop) (env : Env) (st : St) : Prop := vcs P n dsts l env st (QK P n Q k .normal)
def rk (P : Program) (n : Nat) (r : ORes) (d : Option Nat) (dsts : List (Option Nat)) (l : List Oper) (k : Kont) (Q : Exit → Env → St → Prop) (env : Env) (st : St) : Prop :=
  resK P r st (fun v st' => vcs P n dsts l (env.put d v) st' (QK P n Q k .normal))
def gk (P : Program) (n : Nat) (x : AV) (op : Op) (d : Option Nat) (dsts : List (Option Nat)) (l : List Oper) (k : Kont) (Q : Exit → Env → St → Prop) (env : Env) (st : St) : Prop :=
  testVC x (rk P n (evalOp P env.op op) d dsts l k Q env st) (vo P n dsts l k Q (env.put d (.tup [])) st)
def ck (P : Program) (n : Nat) (x : AV) (a b : Code) (k : Kont) (Q : Exit → Env → St → Prop) (env : Env) (st : St) : Prop := testVC x (vk P n a k Q env st) (vk P n b k Q env st)
def lk (P : Program) (n : Nat) (c : Code) (k : Kont) (Q : Exit → Env → St → Prop) (env : Env) (st : St) : Prop := dwp P n c (QK P n Q k) env st
def loadK (P : Program) (n : Nat) (c : Option (TypeId × List AV)) (off m : Nat) (ag : Bool) (d : Option Nat) (dsts : List (Option Nat)) (l : List Oper) (k : Kont) (Q : Exit → Env → St → Prop) (env : Env) (st : St) : Prop :=
  loadVC c off m ag (fun v => vo P n dsts l k Q (env.put d v) st)
def storeK (P : Program) (n : Nat) (c : Option (TypeId × List AV)) (id off : Nat) (vs : List AV) (d : Option Nat) (dsts : List (Option Nat)) (l : List Oper) (k : Kont) (Q : Exit → Env → St → Prop) (env : Env) (st : St) : Prop :=
  storeVC c off vs (fun o => vo P n dsts l k Q (env.put d .undef) (st.upd id o))
def callK (P : Program) (n : Nat) (f : FuncId) (args : List AV) (d : Option Nat) (dsts : List (Option Nat)) (l : List Oper) (k : Kont) (Q : Exit → Env → St → Prop) (env : Env) (st : St) : Prop :=
  dcall P f args st (fun v st' => vo P n dsts l k Q (env.put d v) st')
def appK (P : Program) (n : Nat) (e sz : Nat) (xs ys : List (List AV)) (o : Own) (d : Option Nat) (dsts : List (Option Nat)) (l : List Oper) (k : Kont) (Q : Exit → Env → St → Prop) (env : Env) (st : St) : Prop :=
  (∃ st0, Owns st0 e sz xs.length o st ∧ ∀ o' st', Owns st0 e sz (xs.length + ys.length) o' st' → vo P n dsts l k Q (env.put d (.list sz (xs ++ ys) o')) st') ∨
    (xs = [] ∧ o = .clip ∧ (ys = [] → vo P n dsts l k Q (env.put d (.list sz [] .clip)) st) ∧ (ys ≠ [] → ∀ id c, st id = none → ys.length ≤ c → c ≤ maxLen → vo P n dsts l k Q (env.put d (.rowp id 0 sz ys.length c)) (st.upd id (.cells e (ys.flatten ++ List.replicate ((c - ys.length) * sz) .undef)))))
/-- What other operations have become. -/
def otherK (P : Program) (n : Nat) (r : ORes) (d : Option Nat) (dsts : List (Option Nat)) (l : List Oper) (k : Kont) (Q : Exit → Env → St → Prop) (env : Env) (st : St) : Prop :=
  resK P r st (fun v st' => vo P n dsts l k Q (env.put d v) st')
def yieldK (P : Program) (n : Nat) (id : Nat) (args : List AV) (d : Option Nat) (dsts : List (Option Nat)) (l : List Oper) (k : Kont) (Q : Exit → Env → St → Prop) (env : Env) (st : St) : Prop :=
  dround P id args (st id) st (fun v st' => vo P n dsts l k Q (env.put d v) st')
def newK (P : Program) (n : Nat) (t : TypeId) (cs : List AV) (d : Option Nat) (dsts : List (Option Nat)) (l : List Oper) (k : Kont) (Q : Exit → Env → St → Prop) (env : Env) (st : St) : Prop :=
  ∀ id, st id = none → vo P n dsts l k Q (env.put d (.box id 0)) (st.upd id (.cells t cs))
/-- To begin. -/
theorem dwp_of_vk {c : Code} {Q : Exit → Env → St → Prop} {env : Env} {st : St} (hc : codeOk n c = true) (h : vk P n c .base Q env st) : dwp P n c Q env st := vc_sound c hc h

section
variable {Q : Exit → Env → St → Prop} {env : Env} {st : St} {k : Kont} {dsts : List (Option Nat)} {l : List Oper} {d : Option Nat}
@[simp] theorem vk_skip : vk P n .skip k Q env st = kk P n .normal k Q env st := Eq.trans rfl rfl
@[simp] theorem vk_label {i : Nat} : vk P n (.label i) k Q env st = kk P n .normal k Q env st := Eq.trans rfl rfl
@[simp] theorem vk_ret : vk P n .ret k Q env st = kk P n .ret k Q env st := Eq.trans rfl rfl
@[simp] theorem vk_exit {i : Nat} : vk P n (.exit i) k Q env st = kk P n (.exit i) k Q env st := Eq.trans rfl rfl
@[simp] theorem vk_goto {i : Nat} : vk P n (.goto i) k Q env st = kk P n (.goto i) k Q env st := Eq.trans rfl rfl
@[simp] theorem vk_seq {a b : Code} : vk P n (.seq a b) k Q env st = vk P n a (.seq b k) Q env st := Eq.trans rfl rfl
@[simp] theorem vk_block {i : Nat} {a : Code} : vk P n (.block i a) k Q env st = vk P n a (.block i k) Q env st := Eq.trans rfl rfl
@[simp] theorem vk_cond {x : Operand} {a b : Code} : vk P n (.cond x a b) k Q env st = ck P n (env.op x) a b k Q env st := Eq.trans rfl rfl
@[simp] theorem vk_region {i : Nat} {ops : List Oper} : vk P n (.region i ops.toArray false) k Q env st = vo P n (ops.map (·.dst)) ops k Q env st := Eq.trans rfl rfl
@[simp] theorem vk_draw {i : Nat} {ops : Array Oper} : vk P n (.region i ops true) k Q env st = lk P n (.region i ops true) k Q env st := Eq.trans rfl rfl
@[simp] theorem vk_loop {a : Code} : vk P n (.loop a) k Q env st = lk P n (.loop a) k Q env st := Eq.trans rfl rfl
@[simp] theorem vk_scope {a : Code} : vk P n (.scope a) k Q env st = vk P n a (.scope k) Q env st := Eq.trans rfl rfl
@[simp] theorem kk_scope_normal : kk P n .normal (.scope k) Q env st = kk P n .normal k Q env st := Eq.trans rfl rfl
@[simp] theorem kk_scope_ret : kk P n .ret (.scope k) Q env st = kk P n .ret k Q env st := Eq.trans rfl rfl
@[simp] theorem kk_scope_exit {i : Nat} : kk P n (.exit i) (.scope k) Q env st = kk P n (.exit i) k Q env st := Eq.trans rfl rfl
@[simp] theorem vk_rangeFunc {f : Operand} {ps : Array Tmp} {a b : Code} : vk P n (.rangeFunc f ps a b) k Q env st = lk P n (.rangeFunc f ps a b) k Q env st := Eq.trans rfl rfl
@[simp] theorem kk_base {x : Exit} : kk P n x .base Q env st = Q x env st := Eq.trans rfl rfl
@[simp] theorem kk_seq_normal {b : Code} : kk P n .normal (.seq b k) Q env st = vk P n b k Q env st := Eq.trans rfl rfl
@[simp] theorem kk_seq_ret {b : Code} : kk P n .ret (.seq b k) Q env st = kk P n .ret k Q env st := Eq.trans rfl rfl
@[simp] theorem kk_seq_exit {b : Code} {i : Nat} : kk P n (.exit i) (.seq b k) Q env st = kk P n (.exit i) k Q env st := Eq.trans rfl rfl
@[simp] theorem kk_seq_goto {b : Code} {i : Nat} : kk P n (.goto i) (.seq b k) Q env st = kk P n (.goto i) k Q env st := Eq.trans rfl rfl
@[simp] theorem kk_block_normal {i : Nat} : kk P n .normal (.block i k) Q env st = kk P n .normal k Q env st := Eq.trans rfl rfl
@[simp] theorem kk_block_ret {i : Nat} : kk P n .ret (.block i k) Q env st = kk P n .ret k Q env st := Eq.trans rfl rfl
@[simp] theorem kk_block_goto {i j : Nat} : kk P n (.goto j) (.block i k) Q env st = kk P n (.goto j) k Q env st := Eq.trans rfl rfl
@[simp] theorem kk_block_exit {i : Nat} : kk P n (.exit i) (.block i k) Q env st = kk P n .normal k Q env st := by
  show blockQ i (QK P n Q k) (.exit i) env st = _
  rw [blockQ_exit, if_pos rfl]; rfl
theorem kk_block_exit_ne {i j : Nat} (h : j ≠ i) : kk P n (.exit j) (.block i k) Q env st = kk P n (.exit j) k Q env st := by
  show blockQ i (QK P n Q k) (.exit j) env st = _
  rw [blockQ_exit, if_neg h]; rfl
@[simp] theorem kk_block_exit_if {i j : Nat} : kk P n (.exit j) (.block i k) Q env st = if j = i then kk P n .normal k Q env st else kk P n (.exit j) k Q env st := by
  by_cases h : j = i
  · subst h; rw [kk_block_exit, if_pos rfl]
  · rw [kk_block_exit_ne h, if_neg h]
@[simp] theorem vo_nil : vo P n dsts [] k Q env st = kk P n .normal k Q env st := Eq.trans rfl rfl
@[simp] theorem vo_plain {op : Op} {t : TypeId} {p : String} {af : Array Edge} : vo P n dsts (⟨d, op, t, p, af, none⟩ :: l) k Q env st = rk P n (evalOp P env.op op) d dsts l k Q env st := Eq.trans rfl rfl
@[simp] theorem vo_guard {op : Op} {t : TypeId} {p : String} {af : Array Edge} {j : Nat} {w : Bool} : vo P n dsts (⟨d, op, t, p, af, some (j, w)⟩ :: l) k Q env st = gk P n (guardAV w (env (dstAt dsts j))) op d dsts l k Q env st := Eq.trans rfl rfl
@[simp] theorem rk_val {v : AV} : rk P n (.val v) d dsts l k Q env st = vo P n dsts l k Q (env.put d v) st := Eq.trans rfl rfl
@[simp] theorem rk_lit {sz : Nat} {xs : List (List AV)} : rk P n (.lit sz xs) d dsts l k Q env st = vo P n dsts l k Q (env.put d (.list sz xs .clip)) st := Eq.trans rfl rfl
@[simp] theorem rk_load {id off m : Nat} {ag : Bool} : rk P n (.load id off m ag) d dsts l k Q env st = loadK P n (cellsAt st id) off m ag d dsts l k Q env st := resK_load'
@[simp] theorem rk_store {id off : Nat} {vs : List AV} : rk P n (.store id off vs) d dsts l k Q env st = storeK P n (cellsAt st id) id off vs d dsts l k Q env st := resK_store'
@[simp] theorem rk_new {t : TypeId} {cs : List AV} : rk P n (.new t cs) d dsts l k Q env st = newK P n t cs d dsts l k Q env st := Eq.trans rfl rfl
@[simp] theorem rk_yield {id : Nat} {as : List AV} : rk P n (.yield id as) d dsts l k Q env st = yieldK P n id as d dsts l k Q env st := Eq.trans rfl rfl
@[simp] theorem rk_call {f : FuncId} {as : List AV} : rk P n (.call f as) d dsts l k Q env st = callK P n f as d dsts l k Q env st := Eq.trans rfl rfl
@[simp] theorem rk_appr {e sz b id off m c : Nat} {ys : List (List AV)} : rk P n (.appr e sz b id off m c ys) d dsts l k Q env st = otherK P n (.appr e sz b id off m c ys) d dsts l k Q env st := Eq.trans rfl rfl
@[simp] theorem rk_clr {id off m : Nat} : rk P n (.clr id off m) d dsts l k Q env st = otherK P n (.clr id off m) d dsts l k Q env st := Eq.trans rfl rfl
@[simp] theorem rk_mnew : rk P n .mnew d dsts l k Q env st = otherK P n .mnew d dsts l k Q env st := Eq.trans rfl rfl
@[simp] theorem rk_mget {id : Nat} {s : SK} {key z : AV} {ok : Bool} : rk P n (.mget id s key ok z) d dsts l k Q env st = otherK P n (.mget id s key ok z) d dsts l k Q env st := Eq.trans rfl rfl
@[simp] theorem rk_mset {id : Nat} {s : SK} {key z : AV} : rk P n (.mset id s key z) d dsts l k Q env st = otherK P n (.mset id s key z) d dsts l k Q env st := Eq.trans rfl rfl
@[simp] theorem rk_mdel {id : Nat} {s : SK} {key : AV} : rk P n (.mdel id s key) d dsts l k Q env st = otherK P n (.mdel id s key) d dsts l k Q env st := Eq.trans rfl rfl
@[simp] theorem rk_mlen {id : Nat} : rk P n (.mlen id) d dsts l k Q env st = otherK P n (.mlen id) d dsts l k Q env st := Eq.trans rfl rfl
@[simp] theorem rk_mrange {id : Nat} : rk P n (.mrange id) d dsts l k Q env st = otherK P n (.mrange id) d dsts l k Q env st := Eq.trans rfl rfl
@[simp] theorem rk_mnext {id : Nat} : rk P n (.mnext id) d dsts l k Q env st = otherK P n (.mnext id) d dsts l k Q env st := Eq.trans rfl rfl
@[simp] theorem rk_mentry {id : Nat} : rk P n (.mentry id) d dsts l k Q env st = otherK P n (.mentry id) d dsts l k Q env st := Eq.trans rfl rfl
@[simp] theorem rk_app {e sz b : Nat} {xs ys : List (List AV)} {o : Own} : rk P n (.app e sz b xs ys o) d dsts l k Q env st = appK P n e sz xs ys o d dsts l k Q env st := Eq.trans rfl rfl
@[simp] theorem gk_true {op : Op} : gk P n (.bool true) op d dsts l k Q env st = rk P n (evalOp P env.op op) d dsts l k Q env st := testVC_true
@[simp] theorem gk_false {op : Op} : gk P n (.bool false) op d dsts l k Q env st = vo P n dsts l k Q (env.put d (.tup [])) st := testVC_false
@[simp] theorem ck_true {a b : Code} : ck P n (.bool true) a b k Q env st = vk P n a k Q env st := testVC_true
@[simp] theorem ck_false {a b : Code} : ck P n (.bool false) a b k Q env st = vk P n b k Q env st := testVC_false
theorem ck_split {b : Bool} {c e : Code} (h1 : b = true → vk P n c k Q env st) (h2 : b = false → vk P n e k Q env st) : ck P n (.bool b) c e k Q env st := by
  cases b
  · rw [ck_false]; exact h2 rfl
  · rw [ck_true]; exact h1 rfl
theorem gk_split {b : Bool} {op : Op} (h1 : b = true → rk P n (evalOp P env.op op) d dsts l k Q env st) (h2 : b = false → vo P n dsts l k Q (env.put d (.tup [])) st) : gk P n (.bool b) op d dsts l k Q env st := by
  cases b
  · rw [gk_false]; exact h2 rfl
  · rw [gk_true]; exact h1 rfl
@[simp] theorem loadK_some {t : TypeId} {cs : List AV} {off m : Nat} {ag : Bool} : loadK P n (some (t, cs)) off m ag d dsts l k Q env st = (off + m ≤ cs.length ∧ vo P n dsts l k Q (env.put d (if ag then .agg ((cs.drop off).take m) else cs.getD off .undef)) st) := Eq.trans rfl rfl
@[simp] theorem storeK_some {t : TypeId} {cs : List AV} {id off : Nat} {vs : List AV} : storeK P n (some (t, cs)) id off vs d dsts l k Q env st = (off + vs.length ≤ cs.length ∧ vo P n dsts l k Q (env.put d .undef) (st.upd id (.cells t (spliceL cs off vs)))) := Eq.trans rfl rfl
theorem callK_pure {f : FuncId} {as : List AV} {r : AV} (h : PureC P f as r) (hk : vo P n dsts l k Q (env.put d r) st) : callK P n f as d dsts l k Q env st := h st _ hk
theorem newK_intro {t : TypeId} {cs : List AV} (h : ∀ id, st id = none → vo P n dsts l k Q (env.put d (.box id 0)) (st.upd id (.cells t cs))) : newK P n t cs d dsts l k Q env st := h
theorem appK_intro {e sz : Nat} {xs ys : List (List AV)} {o : Own} (st0 : St) (h : Owns st0 e sz xs.length o st) (hk : ∀ o' st', Owns st0 e sz (xs.length + ys.length) o' st' → vo P n dsts l k Q (env.put d (.list sz (xs ++ ys) o')) st') : appK P n e sz xs ys o d dsts l k Q env st := .inl ⟨st0, h, hk⟩
theorem otherK_intro {r : ORes} (h : resK P r st fun v st' => vo P n dsts l k Q (env.put d v) st') : otherK P n r d dsts l k Q env st := h
/-- A loop. -/
theorem lk_loop {α : Type} {c : Code} (I : α → Env) (S : α → St) (ok : α → Prop) (μ : α → Nat) (x0 : α) (hc : codeOk n c = true) (h0 : ok x0) (he : Env.sub (I x0) env) (hs : St.le (S x0) st)
    (round : ∀ x, ok x → ∀ R : Exit → Env → St → Prop, (∀ y env st, ok y → μ y < μ x → Env.sub (I y) env → St.le (S y) st → R .normal env st) → (∀ e env st, e ≠ .normal → kk P n e k Q env st → R e env st) → vk P n c .base R (I x) (S x)) : lk P n (.loop c) k Q env st := by
  refine dwp_loop I S ok μ x0 h0 he hs fun x hx K hK => vc_sound c hc ?_
  refine round x hx (thenQ K (QK P n Q k)) (fun y env st h1 h2 h3 h4 => hK y env st h1 h2 h3 h4) fun e env st hne h => ?_
  cases e <;> first | exact absurd rfl hne | exact h
theorem lk_draw {id : Nat} {ops : List Oper} (hm : P.follows .mixedOrders = true) (avs : List (List (TypeId × Operand))) (cr : List (Nat × AV)) (hc : drawOk ops avs = true)
    (h : vcT P n cr (aops (ops.map (·.dst)) ops avs) env st (kk P n .normal k Q)) : lk P n (.region id ops.toArray true) k Q env st :=
  dwp_region_draw hm avs cr hc h

/-! ### a region that draws its order -/
def tk (P : Program) (n : Nat) (cr : List (Nat × AV)) (r : ORes) (d : Option Nat) (l : List AOp) (K : Env → St → Prop) (env : Env) (st : St) : Prop :=
  resKP P (crGet cr d) r st (fun v st' => vcT P n cr l (env.put d v) st' K)
def tg (P : Program) (n : Nat) (cr : List (Nat × AV)) (x : AV) (av : List (TypeId × Operand)) (op : Op) (d : Option Nat) (l : List AOp) (K : Env → St → Prop) (env : Env) (st : St) : Prop :=
  testVC x ((∀ p ∈ av, ∀ q, addrOf op = some q → apartAt P env.op p q) ∧ tk P n cr (evalOp P env.op op) d l K env st) (vcT P n cr l (env.put d (.tup [])) st K)
section
variable {cr : List (Nat × AV)} {K : Env → St → Prop} {al : List AOp}
@[simp] theorem vcT_nil : vcT P n cr [] env st K = K env st := Eq.trans rfl rfl
@[simp] theorem vcT_plain {op : Op} {t : TypeId} {p : String} {af : Array Edge} {g : Option (Nat × Bool)} {av : List (TypeId × Operand)} :
    vcT P n cr (⟨⟨d, op, t, p, af, g⟩, none, av⟩ :: al) env st K = (dstOk n d = true ∧ (∀ p ∈ av, ∀ q, addrOf op = some q → apartAt P env.op p q) ∧ tk P n cr (evalOp P env.op op) d al K env st) := Eq.trans rfl rfl
@[simp] theorem vcT_guard {op : Op} {t : TypeId} {p : String} {af : Array Edge} {g : Option (Nat × Bool)} {av : List (TypeId × Operand)} {s : Nat} {w : Bool} :
    vcT P n cr (⟨⟨d, op, t, p, af, g⟩, some (s, w), av⟩ :: al) env st K = (dstOk n d = true ∧ tg P n cr (guardAV w (env s)) av op d al K env st) := by
  apply propext
  show (dstOk n d = true ∧ _) ↔ _
  refine and_congr_right fun _ => ?_
  simp only [guardV, tg, testVC]
  cases env s <;> simp [guardAV]
  rename_i b
  cases b <;> cases w <;> simp <;> first | exact Iff.rfl | exact fun _ => Iff.rfl
@[simp] theorem tg_true {av : List (TypeId × Operand)} {op : Op} : tg P n cr (.bool true) av op d al K env st = ((∀ p ∈ av, ∀ q, addrOf op = some q → apartAt P env.op p q) ∧ tk P n cr (evalOp P env.op op) d al K env st) := testVC_true
@[simp] theorem tg_false {av : List (TypeId × Operand)} {op : Op} : tg P n cr (.bool false) av op d al K env st = vcT P n cr al (env.put d (.tup [])) st K := testVC_false
theorem tg_split {b : Bool} {av : List (TypeId × Operand)} {op : Op} (h1 : b = true → (∀ p ∈ av, ∀ q, addrOf op = some q → apartAt P env.op p q) ∧ tk P n cr (evalOp P env.op op) d al K env st)
    (h2 : b = false → vcT P n cr al (env.put d (.tup [])) st K) : tg P n cr (.bool b) av op d al K env st := by
  cases b
  · rw [tg_false]; exact h2 rfl
  · rw [tg_true]; exact h1 rfl
@[simp] theorem tk_val {v : AV} : tk P n cr (.val v) d al K env st = vcT P n cr al (env.put d v) st K := Eq.trans rfl rfl
@[simp] theorem tk_lit {sz : Nat} {xs : List (List AV)} : tk P n cr (.lit sz xs) d al K env st = vcT P n cr al (env.put d (.list sz xs .clip)) st K := Eq.trans rfl rfl
@[simp] theorem tk_call {f : FuncId} {as : List AV} : tk P n cr (.call f as) d al K env st = (PureC P f as (crGet cr d) ∧ vcT P n cr al (env.put d (crGet cr d)) st K) := Eq.trans rfl rfl
def tkLoad (P : Program) (n : Nat) (cr : List (Nat × AV)) (c : Option (TypeId × List AV)) (off m : Nat) (ag : Bool) (d : Option Nat) (l : List AOp) (K : Env → St → Prop) (env : Env) (st : St) : Prop := loadVC c off m ag (fun v => vcT P n cr l (env.put d v) st K)
def tkStore (P : Program) (n : Nat) (cr : List (Nat × AV)) (c : Option (TypeId × List AV)) (id off : Nat) (vs : List AV) (d : Option Nat) (l : List AOp) (K : Env → St → Prop) (env : Env) (st : St) : Prop := storeVC c off vs (fun o => vcT P n cr l (env.put d .undef) (st.upd id o) K)
def tkNew (P : Program) (n : Nat) (cr : List (Nat × AV)) (t : TypeId) (cs : List AV) (d : Option Nat) (l : List AOp) (K : Env → St → Prop) (env : Env) (st : St) : Prop := ∀ id, st id = none → vcT P n cr l (env.put d (.box id 0)) (st.upd id (.cells t cs)) K
def tkApp (P : Program) (n : Nat) (cr : List (Nat × AV)) (e sz : Nat) (xs ys : List (List AV)) (o : Own) (d : Option Nat) (l : List AOp) (K : Env → St → Prop) (env : Env) (st : St) : Prop :=
  ∃ st0, Owns st0 e sz xs.length o st ∧ ∀ o' st', Owns st0 e sz (xs.length + ys.length) o' st' → vcT P n cr l (env.put d (.list sz (xs ++ ys) o')) st' K
@[simp] theorem tk_load {id off m : Nat} {ag : Bool} : tk P n cr (.load id off m ag) d al K env st = tkLoad P n cr (cellsAt st id) off m ag d al K env st := by
  show resK P (.load id off m ag) st (fun v st' => vcT P n cr al (env.put d v) st' K) = _
  exact resK_load'
@[simp] theorem tk_store {id off : Nat} {vs : List AV} : tk P n cr (.store id off vs) d al K env st = tkStore P n cr (cellsAt st id) id off vs d al K env st := by
  show resK P (.store id off vs) st (fun v st' => vcT P n cr al (env.put d v) st' K) = _
  exact resK_store'
@[simp] theorem tk_new {t : TypeId} {cs : List AV} : tk P n cr (.new t cs) d al K env st = tkNew P n cr t cs d al K env st := Eq.trans rfl rfl
def tkObs (P : Program) (n : Nat) (cr : List (Nat × AV)) (r : ORes) (d : Option Nat) (l : List AOp) (K : Env → St → Prop) (env : Env) (st : St) : Prop := ∃ v, obsV r st = some v ∧ vcT P n cr l (env.put d v) st K
@[simp] theorem tk_mget {id : Nat} {s : SK} {key z : AV} {ok : Bool} : tk P n cr (.mget id s key ok z) d al K env st = tkObs P n cr (.mget id s key ok z) d al K env st := propext (obs_iff rfl)
@[simp] theorem tk_mlen {id : Nat} : tk P n cr (.mlen id) d al K env st = tkObs P n cr (.mlen id) d al K env st := propext (obs_iff rfl)
@[simp] theorem tk_app {e sz b : Nat} {xs ys : List (List AV)} {o : Own} : tk P n cr (.app e sz b xs ys o) d al K env st = tkApp P n cr e sz xs ys o d al K env st := Eq.trans rfl rfl
@[simp] theorem tkLoad_some {t : TypeId} {cs : List AV} {off m : Nat} {ag : Bool} : tkLoad P n cr (some (t, cs)) off m ag d al K env st = (off + m ≤ cs.length ∧ vcT P n cr al (env.put d (if ag then .agg ((cs.drop off).take m) else cs.getD off .undef)) st K) := Eq.trans rfl rfl
@[simp] theorem tkStore_some {t : TypeId} {cs : List AV} {id off : Nat} {vs : List AV} : tkStore P n cr (some (t, cs)) id off vs d al K env st = (off + vs.length ≤ cs.length ∧ vcT P n cr al (env.put d .undef) (st.upd id (.cells t (spliceL cs off vs))) K) := Eq.trans rfl rfl
end
/-- The end of a body. -/
theorem fin {K : AV → St → Prop} {v : AV} (h : K v st) : ∃ r', AV.sub r' v ∧ ∃ x, St.le x st ∧ K r' x := ⟨v, .refl _, st, .refl _, h⟩
theorem fin' {K : AV → St → Prop} {v r : AV} {s : St} (hv : AV.sub r v) (hl : St.le s st) (h : K r s) : ∃ r', AV.sub r' v ∧ ∃ x, St.le x st ∧ K r' x := ⟨r, hv, s, hl, h⟩
end
end
attribute [simp] put_app put_none ofList_app ofList_nil args_app args_nil op_tmp op_const op_func guardAV_bool cellsAt_upd_same resAV_one resAV_two resAV_none retQ_ret retQ_normal zAV evalOp avBin dstAt TK.agg AV.sub.refl St.le.refl AV.cells? AV.one spliceL placeS fillAV hasAll chunks aops gslot crGet dstOk avEqs avEq1
instance : LawfulBEq ByteArray where
  eq_of_beq {a b} h := by
    have := beq_toListBytes a b
    rw [beq_bytes] at this
    rw [this] at h
    simpa using h
  rfl {a} := by
    rw [beq_toListBytes, beq_bytes]; simp
end Go.Sh

/- Shadow logic, part T: a loop over a function. -/
namespace Go.Sh
open Go.RowKit
section
variable {P : Program} {B n : Nat} {w0 w : World} {M : Mem} {st : St} {env : Env} {a : Act}

theorem Inv.O_none (h : Inv B w0 M st w) : M.O w.heap.size = none := by
  cases ho : M.O w.heap.size with
  | none => rfl
  | some o => have := (Array.getElem?_eq_some_iff.1 (h.oth _ _ ho).1).1; omega
/-- A block that holds no cells is laid; it lies beside. -/
theorem Inv.layO (h : Inv B w0 M st w) (o : Obj) (hc : o.isCells = false) : Inv B w0 (M.act M.ds M.ro fun k => if k = w.heap.size then some o else M.O k) st (w.alloc o) := by
  refine ⟨h.below.alloc h.size _, by simp; have := h.size; omega, fun a v e => ?_, h.dom, h.inj, fun id x e => ⟨(h.obj id x e).1, ?_⟩, fun k x e => ?_, fun k e => ?_⟩
  · have hm := h.mem a v e
    have hb := h.fblock e
    simp only [World.cell?, heap_alloc, show a.block ≠ w.heap.size by omega, if_false]
    exact hm
  · have hb := (h.obj id x e).2.block
    exact (h.obj id x e).2.act _ _ _ (if_neg (by omega)) (by rw [heap_alloc, if_neg (by omega)])
  · dsimp only [Mem.act] at e
    split at e
    · rename_i hk; subst hk; injection e with e; subst e; exact ⟨by rw [heap_alloc, if_pos rfl], hc, h.size⟩
    · obtain ⟨h1, h2⟩ := h.oth _ _ e
      have := (Array.getElem?_eq_some_iff.1 h1).1
      exact ⟨by rw [heap_alloc, if_neg (by omega)]; exact h1, h2⟩
  · obtain ⟨r, hr⟩ := h.rnd k e
    refine ⟨r, ?_⟩
    show (if k = w.heap.size then _ else M.O k) = _
    rw [if_neg (fun e => by rw [e, h.O_none] at hr; cases hr)]; exact hr
/-- A loop's record is laid. -/
theorem Inv.layLoop (h : Inv B w0 M st w) {ps : Array Tmp} {assign body : Code} (fn : FuncId) (tmps : Array Value) (dd : Nat) (hs : tmps.size = n) (hr : ∀ d, RepV M (env d) (tmps.getD d Go.undef)) :
    M.le (M.grow w.heap.size 0 0 #[]) ∧ Inv B w0 (M.grow w.heap.size 0 0 #[]) (st.upd M.next (.loop n env ps assign body none)) (w.alloc (.loop { state := .ready, pending := none, fn, tmps, params := ps, assign, body, defers := dd })) := by
  have hle := h.grow_le 0 0 #[]
  have key : ∀ i x, (st.upd M.next (.loop n env ps assign body none)) i = some x → i = M.next ∧ x = .loop n env ps assign body none ∨ i < M.next ∧ st i = some x := by
    intro i x e
    simp only [St.upd] at e
    split at e
    · rename_i hi; injection e with e; exact .inl ⟨hi, e.symm⟩
    · exact .inr ⟨h.dom i x e, e⟩
  refine ⟨hle, h.below.alloc h.size _, by simp; have := h.size; omega, fun a v e => ?_, fun i x e => ?_, fun i j oi oj ei ej hp => ?_, fun i x e => ?_, fun k x e => ?_, h.rnd⟩
  · simp only [Mem.grow] at e
    split at e
    · split at e
      · rename_i hs; omega
      · cases e
    · have hm := h.mem a v e
      rename_i hb
      simp only [World.cell?, heap_alloc, hb, if_false]
      exact hm
  · simp only [Mem.grow]
    rcases key i x e with ⟨e, _⟩ | ⟨e, _⟩ <;> omega
  · rcases key i oi ei with ⟨e1, _⟩ | ⟨e1, f1⟩ <;> rcases key j oj ej with ⟨e2, _⟩ | ⟨e2, f2⟩
    · omega
    · simp only [Mem.grow, e1, if_true] at hp
      rw [if_neg (by omega)] at hp
      have := (h.obj j oj f2).2.block; omega
    · simp only [Mem.grow, e2, if_true] at hp
      rw [if_neg (by omega)] at hp
      have := (h.obj i oi f1).2.block; omega
    · simp only [Mem.grow] at hp
      rw [if_neg (by omega), if_neg (by omega)] at hp
      exact h.inj i j oi oj f1 f2 hp
  · rcases key i x e with ⟨e1, e2⟩ | ⟨e1, f1⟩
    · subst e2
      simp only [Mem.grow, e1, if_true]
      exact ⟨h.size, fn, tmps, dd, by rw [heap_alloc, if_pos rfl]; rfl, hs, fun d => (hr d).mono hle, h.O_none⟩
    · have hb := (h.obj i x f1).2.block
      simp only [Mem.grow]
      rw [if_neg (by omega), if_neg (by omega)]
      refine ⟨(h.obj i x f1).1, (h.obj i x f1).2.keep hle (by rw [heap_alloc, if_neg (by omega)]) fun a ha => ?_⟩
      show (if _ then _ else _) = _; rw [if_neg (by omega)]
  · obtain ⟨h1, h2⟩ := h.oth _ _ (show M.O k = some x from e)
    have := (Array.getElem?_eq_some_iff.1 h1).1
    exact ⟨by rw [heap_alloc, if_neg (by omega)]; exact h1, h2⟩
/-- A loop's record is done with. -/
theorem Inv.dropLoop (h : Inv B w0 M st w) {id : Nat} {env : Env} {ps : Array Tmp} {assign body : Code} {left : Option Code} (hid : st id = some (.loop n env ps assign body left)) (o : Obj) :
    Inv B w0 M (st.del id) (w.putObj (M.pos id) o) := by
  obtain ⟨hB, fn, tmps, dd, h1, _, _, hO⟩ := h.obj id _ hid
  have key : ∀ i x, (st.del id) i = some x → i ≠ id ∧ st i = some x := by
    intro i x e
    simp only [St.del] at e
    split at e
    · cases e
    · rename_i hi; exact ⟨hi, e⟩
  refine ⟨Below.turn h.below hB o, by simpa using h.size, h.mem_turn h1 rfl o, fun i x e => h.dom i x (key i x e).2, fun i j oi oj ei ej => h.inj i j oi oj (key _ _ ei).2 (key _ _ ej).2, fun i x e => ?_, fun k x e => ?_, h.rnd⟩
  · obtain ⟨e1, e2⟩ := key i x e
    have hne : M.pos i ≠ M.pos id := fun hp => e1 (h.inj i id x _ e2 hid hp)
    exact ⟨(h.obj i x e2).1, (h.obj i x e2).2.keep (.refl M) (World.putObj_heap_other hne) fun _ _ => rfl⟩
  · obtain ⟨k1, k2⟩ := h.oth k x e
    have hne : k ≠ M.pos id := by rintro rfl; rw [hO] at e; cases e
    exact ⟨(World.putObj_heap_other hne).trans k1, k2⟩

/-- How a loop over a function is left. -/
def loopQ (P : Program) (n : Nat) (id : Nat) (Q : Exit → Env → St → Prop) (env : Env) (st2 : St) : Option AObj → Prop
  | some (.loop _ _ _ _ _ none) => Q .normal env (st2.del id)
  | some (.loop _ _ _ _ _ (some c)) => dwp P n c Q env (st2.del id)
  | _ => False
theorem dwp_rangeFunc {g : Operand} {ps : Array Tmp} {assign body : Code} {Q : Exit → Env → St → Prop} {gf : FuncId} {caps : List AV} (hg : env.op g = .fn gf caps)
    (h : ∀ id, st id = none → dcall P gf (.yld id :: caps) (st.upd id (.loop n env ps assign body none)) fun _ st2 => loopQ P n id Q env st2 (st2 id)) : dwp P n (.rangeFunc g ps assign body) Q env st := by
  intro B w0 M a w hI hE
  refine wpIn_rangeFunc fun fn _ => ?_
  have hfr := hE.op g
  rw [hg] at hfr
  obtain ⟨cs, hev, hsz, hcs⟩ : ∃ cs, a.eval g = .func (.func gf) #[] cs ∧ cs.size = caps.length ∧ ∀ j, RepV M (caps.getD j .undef) (cs.getD j Go.undef) := by
    generalize a.eval g = z at hfr
    cases hfr
    exact ⟨_, rfl, by assumption, by assumption⟩
  have hnone : st M.next = none := by
    cases hs : st M.next with
    | none => rfl
    | some o => have := hI.dom _ _ hs; omega
  have hcall := h M.next hnone
  have hok := hcall.1
  -- what is the same for both
  have main : ∀ (M1 : Mem) (w1 : World) (dd : Nat) (mark : List Deferred), M.up M1 → M1.next = M.next → Inv B w0 M1 st w1 → (∀ k o, M.O k = some o → M1.O k = some o) → M1.ro = M.ro → M1.ds = M.ds →
      (∃ l : List Nat, mark = l.map markOf ∧ l.Nodup ∧ ∀ D ∈ l, M1.O D = some emptyBlock ∧ M.O D = none) →
      (Instr.enterLoop fn a.tmps ps assign body (fen M.ro).round).run P w = .ok (w1.heap.size, mark) (w1.alloc (.loop { state := .ready, pending := none, fn, tmps := a.tmps, params := ps, assign, body, defers := dd })) →
      ∃ (l : Nat) (mark : List Deferred) (w₁ : World) (d : Deferred) (w₁' : World) (f : FuncId) (args : Array Value) (w₂ : World),
      (Instr.enterLoop fn a.tmps ps assign body (fen M.ro).round).run P w = .ok (l, mark) w₁ ∧
      (resolve a.eval (rangeCall g l) 0).run P w₁ = .ok d w₁' ∧
      (∀ f', Target.leads P w₁' d.target d.args = some f' → (fen M.ro).fn f') ∧
      (invoke d.target d.args).run P w₁' = .ok (.enter f args) w₂ ∧
      ((fen M.ro).depth.isSome = true → 1 ≤ 0) ∧
      CallsIn (fen M.ro) (0 - 1) P f args w₂ (rangePost (fen M.ro) 0 P l (fun e a' w' => Post B w0 M n (Q e) a' w') { a with defers := mark ++ a.defers }) := by
    intro M1 w1 dd mark hup hnx hI1 hO1 hro hds ⟨l, hm, hnd, hl⟩ hent
    obtain ⟨hle2, hI2⟩ := hI1.layLoop (n := n) (env := env) (ps := ps) (assign := assign) (body := body) fn a.tmps dd hE.size (fun d => (hE.slot d).mono' hup)
    rw [hnx] at hI2
    have hup2 : M.up (M1.grow w1.heap.size 0 0 #[]) := hup.trans hle2.toup
    have hpos2 : (M1.grow w1.heap.size 0 0 #[]).pos M.next = w1.heap.size := by simp [Mem.grow, hnx]
    have hnext2 : M.next < (M1.grow w1.heap.size 0 0 #[]).next := by simp [Mem.grow, hnx]
    have hargs : RepL (M1.grow w1.heap.size 0 0 #[]) (.yld M.next :: caps) (#[Value.func (.yield w1.heap.size) #[] #[]] ++ cs) := by
      refine RepL.append (cs := [.yld M.next]) ⟨rfl, fun j => ?_⟩ ⟨hsz, fun j => (hcs j).mono' hup2⟩
      cases j with
      | zero =>
        have := RepV.yld (M := M1.grow w1.heap.size 0 0 #[]) M.next hnext2
        rw [hpos2] at this
        exact this
      | succ j => simp; exact .undef _
    obtain ⟨fnn, f1, f2, f3⟩ := hok
    obtain ⟨W2, hW2⟩ : ∃ W2, w1.alloc (.loop { state := .ready, pending := none, fn, tmps := a.tmps, params := ps, assign, body, defers := dd }) = W2 := ⟨_, rfl⟩
    rw [hW2] at hent hI2
    refine ⟨w1.heap.size, mark, W2, { target := .fn (.func gf) cs, args := #[.func (.yield w1.heap.size) #[] #[]] }, W2, gf, #[.func (.yield w1.heap.size) #[] #[]] ++ cs, W2, hent, ?_, fun _ _ => trivial, ?_, fun hd => (by simp [fen, Fence.wide] at hd), calls_fen ?_⟩
    · simp only [resolve, hev]
      simp [go_sem]
    · have : (callFunc gf (#[Value.func (.yield w1.heap.size) #[] #[]] ++ cs)).run P W2 = .ok (.enter gf (#[Value.func (.yield w1.heap.size) #[] #[]] ++ cs)) W2 := by
        simp only [callFunc, Sem.run_bind, run_program, Result.andThen_ok, f1, f2, f3, Bool.false_eq_true, if_false, Sem.run_pure]
      simp [invoke, go_sem, this]
    · refine (hcall.2 B w0 _ _ _ hI2 hargs).mono fun e w3 ⟨x, M3, v, st3, he, k1, k2, k3, k4⟩ => ?_
      subst he
      have hp3 : M3.pos M.next = w1.heap.size := (k1.pos _ hnext2).trans hpos2
      have hO3 : ∀ k o, M1.O k = some o → M3.O k = some o := fun k o e => k1.O k o e
      have hlem : ∀ ds, ds = mark ++ M.ds → M.lem (M3.act ds M.ro M3.O) := by
        intro ds hds
        refine ⟨(hup2.trans k1.toup).trans (up_act ..), fun k o e => hO3 k o (hO1 k o e), ⟨l, ?_, hnd, fun D hD => ⟨hO3 _ _ (hl D hD).1, (hl D hD).2⟩⟩, rfl⟩
        show ds = _
        rw [hds, hm]
      have hIact : ∀ (st' : St) (w' : World), Inv B w0 M3 st' w' → ∀ ds, Inv B w0 (M3.act ds M.ro M3.O) st' w' := fun st' w' hh ds =>
        hh.act _ _ hh.oth (fun _ _ _ => rfl) fun l e => let ⟨r, hr⟩ := hI.rnd l e; ⟨r, hO3 _ _ (hO1 _ _ hr)⟩
      have hE3 : RepE (M3.act (mark ++ M.ds) M.ro M3.O) n env { a with defers := mark ++ a.defers } := ⟨hE.size, by rw [hE.defers]; rfl, fun d => (hE.slot d).mono' ((hup2.trans k1.toup).trans (up_act ..))⟩
      replace k4 : loopQ P n M.next Q env st3 (st3 M.next) := k4
      unfold loopQ at k4
      split at k4
      · rename_i n' env' ps' as' bo' hs
        obtain ⟨_, fn', tmps', dd', hh, _⟩ := k2.obj _ _ hs
        rw [hp3] at hh
        refine ⟨_, _, run_endLoop (P := P) hh (by simp), ?_⟩
        have hdrop := k2.dropLoop hs (.loop { state := .exhausted, pending := none, fn := fn', tmps := tmps', params := ps', assign := as', body := bo', defers := dd' })
        rw [hp3] at hdrop
        exact ⟨_, env, _, hlem _ rfl, hIact _ _ hdrop _, hE3, k4⟩
      · rename_i n' env' ps' as' bo' c hs
        obtain ⟨_, fn', tmps', dd', hh, _⟩ := k2.obj _ _ hs
        rw [hp3] at hh
        refine ⟨_, _, run_endLoop (P := P) hh (by simp), ?_⟩
        have hdrop := k2.dropLoop hs (.loop { state := .exhausted, pending := some c, fn := fn', tmps := tmps', params := ps', assign := as', body := bo', defers := dd' })
        rw [hp3] at hdrop
        exact wpIn_mono (k4 B w0 (M3.act (mark ++ M.ds) M.ro M3.O) _ _ (hIact _ _ hdrop (mark ++ M.ds)) hE3) fun _ _ _ hp => hp.le (hlem _ rfl)
      · exact k4.elim
  have hcase : M.ro = none ∨ ∃ l0, M.ro = some l0 := by cases M.ro <;> simp
  rcases hcase with hro | ⟨l0, hro⟩
  ·
    have h1 := hI.layO emptyBlock rfl
    refine main (M.act M.ds M.ro fun k => if k = w.heap.size then some emptyBlock else M.O k) (w.alloc emptyBlock) w.heap.size [markOf w.heap.size] (up_act ..) rfl h1 (fun k o e => ?_) rfl rfl ⟨[w.heap.size], rfl, by simp, fun D hD => ?_⟩ ?_
    · show (if k = w.heap.size then _ else M.O k) = _
      rw [if_neg (fun hk => by rw [hk, hI.O_none] at e; cases e)]; exact e
    · simp only [List.mem_singleton] at hD
      subst hD
      exact ⟨if_pos rfl, hI.O_none⟩
    · rw [hro]
      have := run_enterLoop_outer (P := P) (w := w) fn a.tmps ps assign body
      rw [size_alloc]
      exact this
  · obtain ⟨r, hr⟩ := hI.rnd l0 hro
    refine main M w r.defers [] (Mem.le.refl M).toup rfl hI (fun _ _ e => e) rfl rfl ⟨[], rfl, List.nodup_nil, fun _ h => by cases h⟩ ?_
    rw [hro]
    exact run_enterLoop_inner (P := P) (hI.oth _ _ hr).1 fn a.tmps ps assign body
end
end Go.Sh

/- Shadow logic, part U: loops over functions, in the form for simp. -/
namespace Go.Sh
open Go.RowKit
section
variable {P : Program} {n : Nat} {Q : Exit → Env → St → Prop} {env : Env} {st : St} {k : Kont}
/-- How a loop over a function is left. -/
def loopK (P : Program) (n : Nat) (k : Kont) (Q : Exit → Env → St → Prop) (env : Env) (st2 : St) : Option Code → Prop
  | none => kk P n .normal k Q env st2
  | some .ret => kk P n .ret k Q env st2
  | some (.exit i) => kk P n (.exit i) k Q env st2
  | _ => False
theorem lk_rangeFunc {g : Operand} {ps : Array Tmp} {assign body : Code} {gf : FuncId} {caps : List AV} (hg : env.op g = .fn gf caps)
    (h : ∀ id, st id = none → dcall P gf (.yld id :: caps) (st.upd id (.loop n env ps assign body none)) fun _ st2 => ∃ left, st2 id = some (.loop n env ps assign body left) ∧ loopK P n k Q env (st2.del id) left) :
    lk P n (.rangeFunc g ps assign body) k Q env st := by
  refine dwp_rangeFunc hg fun id hid => dcall_mono (fun v s => ?_) (h id hid)
  rintro ⟨left, h1, h2⟩
  rw [h1]
  unfold loopK at h2
  split at h2
  · exact h2
  · exact dwp_ret h2
  · exact dwp_exit h2
  · exact h2.elim
def roundR (R : Option Code → St → Prop) : Exit → Env → St → Prop
  | .normal, _, st => R none st
  | .ret, _, st => R (some .ret) st
  | .exit i, _, st => R (some (.exit i)) st
  | .goto l, _, st => R (some (.goto l)) st
  | _, _, _ => False
/-- Code that ends where it ends. -/
def straight : Code → Bool
  | .skip => true
  | .seq a b => straight a && straight b
  | .region _ _ false => true
  | _ => false
theorem vc_straight : ∀ (c : Code) {Q Q' : Exit → Env → St → Prop}, straight c = true → Q .normal = Q' .normal → vc P n c Q = vc P n c Q' := by
  intro c
  induction c with
  | skip => intro Q Q' _ h; funext env st; show Q .normal env st = _; rw [h]; rfl
  | seq a b iha ihb =>
    intro Q Q' hs h
    simp only [straight, Bool.and_eq_true] at hs
    funext env st
    have := iha (Q := thenQ (fun e s => vc P n b Q e s) Q) (Q' := thenQ (fun e s => vc P n b Q' e s) Q') hs.1 (by show (fun e s => vc P n b Q e s) = _; rw [ihb hs.2 h]; rfl)
    show vc P n a (thenQ (fun e s => vc P n b Q e s) Q) env st = _
    rw [this]; rfl
  | region _ ops d =>
    intro Q Q' hs h
    cases d with
    | false => funext env st; show vcs _ _ _ _ _ _ (Q .normal) = _; rw [h]; rfl
    | true => cases hs
  | _ => intro Q Q' hs h; cases hs
/-- A round, where the loop is known. -/
theorem dround_intro {id : Nat} {args : List AV} {n0 : Nat} {env0 : Env} {ps : Array Tmp} {assign body : Code} {K : AV → St → Prop}
    (h1 : args.length = ps.size) (h2 : (ps.toList.all fun p => decide (p < n0)) = true) (hc0 : straight assign = true) (hc1 : codeOk n0 assign = true) (hc2 : codeOk n0 body = true)
    (h : ∀ R : Option Code → St → Prop, (∀ left s, s id = some .busy → K (.bool left.isNone) (s.upd id (.loop n0 env0 ps assign body left)) → R left s) →
      vk P n0 assign (.seq body .base) (roundR R) (putAll env0 (ps.toList.zip args)) (st.upd id .busy)) :
    dround P id args (some (.loop n0 env0 ps assign body none)) st K := by
  have h' := h (fun left s => s id = some .busy ∧ K (.bool left.isNone) (s.upd id (.loop n0 env0 ps assign body left))) fun _ _ h h' => ⟨h, h'⟩
  have h'' : vc P n0 assign (onlyQ fun e1 s1 => vc P n0 body (roundR fun left s => s id = some .busy ∧ K (.bool left.isNone) (s.upd id (.loop n0 env0 ps assign body left))) e1 s1) (putAll env0 (ps.toList.zip args)) (st.upd id .busy) := by
    rw [vc_straight assign hc0 (Q' := QK P n0 (roundR fun left s => s id = some .busy ∧ K (.bool left.isNone) (s.upd id (.loop n0 env0 ps assign body left))) (.seq body .base))]
    · exact h'
    · rfl
  refine ⟨h1, h2, dwp_mono (fun e env st hk => ?_) (vc_sound assign hc1 h'')⟩
  cases e <;> first | exact hk.elim | skip
  refine dwp_mono (fun e env st hk => ?_) (vc_sound body hc2 hk)
  cases e <;> exact hk
def loopLeft (c : Code) : AObj → AObj
  | .loop n env ps a b _ => .loop n env ps a b (some c)
  | x => x
@[simp] theorem loopLeft_loop {c : Code} {n0 : Nat} {env0 : Env} {ps : Array Tmp} {assign body : Code} {left : Option Code} : loopLeft c (.loop n0 env0 ps assign body left) = .loop n0 env0 ps assign body (some c) := Eq.trans rfl rfl
theorem dround_intro' {id : Nat} {args : List AV} {n0 : Nat} {env0 : Env} {ps : Array Tmp} {assign body : Code} {K : AV → St → Prop} {o : Option AObj} {O : AObj}
    (hO : AObj.loop n0 env0 ps assign body none = O) (ho : o = some O)
    (h1 : args.length = ps.size) (h2 : (ps.toList.all fun p => decide (p < n0)) = true) (hc0 : straight assign = true) (hc1 : codeOk n0 assign = true) (hc2 : codeOk n0 body = true)
    (h : ∀ R : Option Code → St → Prop, (∀ s, s id = some .busy → K (.bool true) (s.upd id O) → R none s) → (∀ c s, s id = some .busy → K (.bool false) (s.upd id (loopLeft c O)) → R (some c) s) →
      vk P n0 assign (.seq body .base) (roundR R) (putAll env0 (ps.toList.zip args)) (st.upd id .busy)) :
    dround P id args o st K := by
  rw [ho, ← hO]
  exact dround_intro h1 h2 hc0 hc1 hc2 fun R hR => h R (fun s hb hs => hR none s hb (by rw [hO]; exact hs)) fun c s hb hs => hR (some c) s hb (by rw [← hO] at hs; exact hs)
@[simp] theorem roundR_normal {R : Option Code → St → Prop} : roundR R .normal env st = R none st := Eq.trans rfl rfl
@[simp] theorem roundR_ret {R : Option Code → St → Prop} : roundR R .ret env st = R (some .ret) st := Eq.trans rfl rfl
@[simp] theorem roundR_exit {R : Option Code → St → Prop} {i : Nat} : roundR R (.exit i) env st = R (some (.exit i)) st := Eq.trans rfl rfl
@[simp] theorem onlyQ_normal {K : Env → St → Prop} : onlyQ K .normal env st = K env st := Eq.trans rfl rfl
@[simp] theorem putAll_nil : putAll env [] = env := Eq.trans rfl rfl
@[simp] theorem putAll_cons {d : Nat} {v : AV} {r : List (Nat × AV)} : putAll env ((d, v) :: r) = putAll (env.put (some d) v) r := Eq.trans rfl rfl
@[simp] theorem loopK_none {st2 : St} : loopK P n k Q env st2 none = kk P n .normal k Q env st2 := Eq.trans rfl rfl
@[simp] theorem loopK_ret {st2 : St} : loopK P n k Q env st2 (some .ret) = kk P n .ret k Q env st2 := Eq.trans rfl rfl
@[simp] theorem loopK_exit {st2 : St} {i : Nat} : loopK P n k Q env st2 (some (.exit i)) = kk P n (.exit i) k Q env st2 := Eq.trans rfl rfl
end
section
variable {P : Program} {n : Nat} {Q : Exit → Env → St → Prop} {env : Env} {st : St} {k : Kont} {dsts : List (Option Nat)} {l : List Oper} {d : Option Nat}
theorem dround_weaken {id : Nat} {args : List AV} {K : AV → St → Prop} {s s' : St} {o : AObj} (hs : St.le s s') (ho : s id = some o) (h : dround P id args (s id) s K) : dround P id args (s' id) s' K := by
  rw [ho] at h
  rw [hs id o ho]
  unfold dround at h ⊢
  split at h
  · refine ⟨h.1, h.2.1, dwp_weaken (fun _ => .refl _) (fun i x e => ?_) h.2.2⟩
    simp only [St.upd] at e ⊢
    split at e
    · rename_i hi; rw [if_pos hi]; exact e
    · rename_i hi; rw [if_neg hi]; exact hs i x e
  · exact h.elim
theorem callK_intro {f : FuncId} {as : List AV} (h : dcall P f as st fun v st' => vo P n dsts l k Q (env.put d v) st') : callK P n f as d dsts l k Q env st := h
theorem yieldK_intro {id : Nat} {as : List AV} (h : dround P id as (st id) st fun v st' => vo P n dsts l k Q (env.put d v) st') : yieldK P n id as d dsts l k Q env st := h
theorem cellsAt_of {id : Nat} {t : TypeId} {cs : List AV} (h : st id = some (.cells t cs)) : cellsAt st id = some (t, cs) := by simp [cellsAt, h]
def cellsO : AObj → Option (TypeId × List AV)
  | .cells t cs => some (t, cs)
  | _ => none
@[simp] theorem cellsO_cells {t : TypeId} {cs : List AV} : cellsO (.cells t cs) = some (t, cs) := Eq.trans rfl rfl
@[simp] theorem cellsO_loop {n0 : Nat} {env0 : Env} {ps : Array Tmp} {assign body : Code} {left : Option Code} : cellsO (.loop n0 env0 ps assign body left) = none := Eq.trans rfl rfl
@[simp] theorem cellsAt_upd {i j : Nat} {o : AObj} : cellsAt (st.upd i o) j = if j = i then cellsO o else cellsAt st j := by
  unfold cellsAt St.upd
  by_cases h : j = i
  · simp only [if_pos h]
    cases o <;> simp [cellsO]
  · simp only [if_neg h]
@[simp] theorem cellsAt_del {i j : Nat} : cellsAt (st.del i) j = if j = i then none else cellsAt st j := by
  unfold cellsAt St.del
  by_cases h : j = i <;> simp [h]
@[simp] theorem upd_app {i j : Nat} {o : AObj} : (st.upd i o) j = if j = i then some o else st j := Eq.trans rfl rfl
@[simp] theorem del_app {i j : Nat} : (st.del i) j = if j = i then none else st j := Eq.trans rfl rfl
theorem le_left {A B : St} {i : Nat} {o : AObj} (h : B i = some o) (k : St.le A B) : St.le (A.upd i o) B := by
  intro j y e
  simp only [St.upd] at e
  split at e
  · rename_i hj; rw [hj, h]; exact e
  · exact k j y e
theorem le_right {A B : St} {i : Nat} {o : AObj} (h : A i = none) (k : St.le A B) : St.le A (B.upd i o) := by
  intro j y e
  have : j ≠ i := by rintro rfl; rw [h] at e; cases e
  rw [upd_ne _ this]; exact k j y e
theorem le_del {A B : St} {i : Nat} (h : A i = none) (k : St.le A B) : St.le A (B.del i) := by
  intro j y e
  have : j ≠ i := by rintro rfl; rw [h] at e; cases e
  simp only [St.del, if_neg this]; exact k j y e
theorem del_none {i j : Nat} (h : (st.del i) j = none) : j = i ∨ st j = none := by
  simp only [St.del] at h
  split at h
  · exact .inl (by assumption)
  · exact .inr h
end
end Go.Sh

/- Shadow logic, part X: rows under construction; what is known in other words. -/
namespace Go.Sh
open Go.RowKit

def rowIs (s : St) (id e sz : Nat) (xs : List (List AV)) (off c : Nat) : Prop :=
  ∃ cs, s id = some (.cells e cs) ∧ off + c * sz ≤ cs.length ∧ xs.length ≤ c ∧ c ≤ maxLen ∧ (cs.drop off).take (xs.length * sz) = xs.flatten ∧ ∀ x ∈ xs, x.length = sz
/-- A row that was made behind st0. -/
structure Acc (st0 s : St) (id off c e sz : Nat) (xs : List (List AV)) : Prop where
  le : St.le st0 s
  ok : (c = 0 ∧ xs = []) ∨ (st0 id = none ∧ 0 < c ∧ rowIs s id e sz xs off c)
theorem Acc.nil (st : St) (id off e sz : Nat) : Acc st st id off 0 e sz [] := ⟨.refl _, .inl ⟨rfl, rfl⟩⟩
theorem Acc.mono {st0 s s' : St} {id off c e sz : Nat} {xs : List (List AV)} (h : Acc st0 s id off c e sz xs) (k : St.le s s') : Acc st0 s' id off c e sz xs := by
  refine ⟨h.le.trans k, ?_⟩
  rcases h.ok with h | ⟨h1, h2, cs, h3, h4⟩
  · exact .inl h
  · exact .inr ⟨h1, h2, cs, k _ _ h3, h4⟩
theorem Acc.new {st0 s : St} {id off c e sz : Nat} {xs : List (List AV)} (h : Acc st0 s id off c e sz xs) {x : Nat} (hx : s x = none) (A : AObj) : Acc st0 (s.upd x A) id off c e sz xs := h.mono (le_upd hx A)
/-- Another object of the state is turned. -/
theorem Acc.turn {st0 s : St} {id off c e sz : Nat} {xs : List (List AV)} (h : Acc st0 s id off c e sz xs) {x : Nat} (hx : st0 x = none) (hne : c = 0 ∨ x ≠ id) (A : AObj) : Acc st0 (s.upd x A) id off c e sz xs := by
  refine ⟨le_right hx h.le, ?_⟩
  rcases h.ok with h | ⟨h1, h2, cs, h3, h4⟩
  · exact .inl h
  · refine .inr ⟨h1, h2, cs, ?_, h4⟩
    rcases hne with hc | hne
    · omega
    · rw [upd_ne _ (Ne.symm hne)]; exact h3
/-- A new box is none of the row. -/
theorem Acc.fresh {st0 s : St} {id off c e sz : Nat} {xs : List (List AV)} (h : Acc st0 s id off c e sz xs) {x : Nat} (hx : s x = none) : c = 0 ∨ x ≠ id := by
  rcases h.ok with ⟨h, _⟩ | ⟨_, _, cs, h3, _⟩
  · exact .inl h
  · exact .inr fun e => by rw [e, h3] at hx; cases hx
theorem Acc.none {st0 s : St} {id off c e sz : Nat} {xs : List (List AV)} (h : Acc st0 s id off c e sz xs) {x : Nat} (hx : s x = none) : st0 x = none := by
  cases hs : st0 x with
  | none => rfl
  | some o => rw [h.le _ _ hs] at hx; cases hx
/-- A box that isn't the row's is turned again. -/
theorem Acc.new_same {st0 s : St} {id off c e sz : Nat} {xs : List (List AV)} {x : Nat} {A : AObj} (h : Acc st0 (s.upd x A) id off c e sz xs) (hx : s x = Option.none) (hne : c = 0 ∨ x ≠ id) (h0 : st0 x = Option.none) (B : AObj) : Acc st0 ((s.upd x A).upd x B) id off c e sz xs := h.turn h0 hne B
theorem Acc.busy {st0 s : St} {id off c e sz : Nat} {xs : List (List AV)} (h : Acc st0 s id off c e sz xs) {x : Nat} (hx : st0 x = Option.none) (hne : c = 0 ∨ id ≠ x) (A : AObj) : Acc st0 (s.upd x A) id off c e sz xs := h.turn hx (hne.imp_right Ne.symm) A
theorem Acc.del {st0 s : St} {id off c e sz : Nat} {xs : List (List AV)} (h : Acc st0 s id off c e sz xs) {x : Nat} (hx : st0 x = Option.none) (hne : c = 0 ∨ x ≠ id) : Acc st0 (s.del x) id off c e sz xs := by
  refine ⟨le_del hx h.le, ?_⟩
  rcases h.ok with h | ⟨h1, h2, cs, h3, h4⟩
  · exact .inl h
  · refine .inr ⟨h1, h2, cs, ?_, h4⟩
    rcases hne with hc | hne
    · omega
    · simp only [St.del]; rw [if_neg (Ne.symm hne)]; exact h3
theorem flatten_take (sz : Nat) (xs : List (List AV)) (h : ∀ x ∈ xs, x.length = sz) : xs.flatten.length = xs.length * sz :=
  flatten_len sz xs fun i hi => h _ (by rw [List.getD_eq_getElem?_getD, List.getElem?_eq_getElem hi]; exact List.getElem_mem hi)
theorem getElem?_splice_lt (l : List AV) (k : Nat) (vs : List AV) (q : Nat) (h : q < k) : (spliceL l k vs)[q]? = l[q]? := by
  rw [get_spliceL, if_neg (by omega)]
/-- The row, with more behind it. -/
theorem rowIs.grow {s : St} {id e sz : Nat} {xs ys : List (List AV)} {off c : Nat} {cs : List AV} (hs : s id = some (.cells e cs)) (h1 : off + c * sz ≤ cs.length) (h2 : xs.length + ys.length ≤ c) (h3 : c ≤ maxLen)
    (h4 : (cs.drop off).take (xs.length * sz) = xs.flatten) (h5 : ∀ x ∈ xs, x.length = sz) (h6 : ∀ y ∈ ys, y.length = sz) :
    rowIs (s.upd id (.cells e (spliceL cs (off + xs.length * sz) ys.flatten))) id e sz (xs ++ ys) off c := by
  have hf := flatten_take sz ys h6
  have hfx := flatten_take sz xs h5
  have hb : (xs.length + ys.length) * sz ≤ c * sz := Nat.mul_le_mul_right _ h2
  rw [Nat.add_mul] at hb
  refine ⟨_, upd_eq _ _ _, by rw [length_spliceL]; exact h1, by simpa using h2, h3, ?_, fun x hx => ?_⟩
  · apply List.ext_getElem?
    intro q
    rw [List.length_append, Nat.add_mul, List.getElem?_take, List.flatten_append]
    by_cases hq : q < xs.length * sz + ys.length * sz
    · rw [if_pos hq, List.getElem?_drop, get_spliceL]
      by_cases hq2 : q < xs.length * sz
      · rw [if_neg (by omega), List.getElem?_append_left (by omega)]
        have := congrArg (·[q]?) h4
        simp only [List.getElem?_take, List.getElem?_drop, if_pos hq2] at this
        exact this
      · rw [if_pos (by omega), List.getElem?_append_right (by omega), hfx]
        congr 1; omega
    · rw [if_neg hq, List.getElem?_eq_none (by simp [-List.length_flatten, hf, hfx]; omega)]
  · rcases List.mem_append.1 hx with hx | hx
    · exact h5 x hx
    · exact h6 x hx
theorem rowIs.made {s : St} {id e sz : Nat} {xs : List (List AV)} {c : Nat} (pad : List AV) (h2 : xs.length ≤ c) (h3 : c ≤ maxLen) (h5 : ∀ x ∈ xs, x.length = sz) (hp : pad.length = (c - xs.length) * sz) :
    rowIs (s.upd id (.cells e (xs.flatten ++ pad))) id e sz xs 0 c := by
  have hf := flatten_take sz xs h5
  refine ⟨_, upd_eq _ _ _, ?_, h2, h3, ?_, h5⟩
  · rw [List.length_append, hf, hp, ← Nat.add_mul, Nat.zero_add]
    exact Nat.mul_le_mul_right _ (by omega)
  · rw [List.drop_zero, ← hf, List.take_left']
    rfl

section
variable {P : Program} {n : Nat} {Q : Exit → Env → St → Prop} {env : Env} {st : St} {k : Kont} {dsts : List (Option Nat)} {l : List Oper} {d : Option Nat}
theorem resK_appr {st0 s : St} {id off c e sz m b : Nat} {xs ys : List (List AV)} {K : AV → St → Prop} (ha : Acc st0 s id off c e sz xs) (hm : m = xs.length) (hy : ∀ y ∈ ys, y.length = sz)
    (hk : ∀ id' off' c' s', Acc st0 s' id' off' c' e sz (xs ++ ys) → (∀ j o, s j = some o → (c = 0 ∨ j ≠ id) → s' j = some o ∧ (c' = 0 ∨ j ≠ id')) → K (.rowp id' off' sz (m + ys.length) c') s') :
    resK P (.appr e sz b id off m c ys) s K := by
  subst hm
  have hle := ha.le
  unfold resK
  simp only
  by_cases hc : c = 0
  · rw [if_pos hc]
    have hx : xs = [] := by
      rcases ha.ok with ⟨_, h⟩ | ⟨_, h, _⟩
      · exact h
      · omega
    subst hx
    simp only [List.nil_append] at hk
    refine ⟨rfl, fun hy0 => ?_, fun hy0 id' c' h1 h2 h3 => ?_⟩
    · subst hy0
      have := hk id off 0 s ⟨hle, .inl ⟨rfl, rfl⟩⟩ (fun j o hj _ => ⟨hj, .inl rfl⟩)
      simpa using this
    · have hpos : 0 < ys.length := List.length_pos_iff.2 hy0
      have hn0 : st0 id' = none := by
        cases hs : st0 id' with
        | none => rfl
        | some o => rw [hle _ _ hs] at h1; cases h1
      have := hk id' 0 c' _ ⟨le_right hn0 hle, .inr ⟨hn0, by omega, rowIs.made (s := s) (id := id') (e := e) (List.replicate ((c' - ys.length) * sz) .undef) h2 h3 hy (by simp)⟩⟩ (fun j o hj _ => ⟨le_upd h1 _ _ _ hj, .inr fun e => by rw [e, h1] at hj; cases hj⟩)
      simpa using this
  · rw [if_neg hc]
    rcases ha.ok with ⟨h, _⟩ | ⟨h0, hpos, cs, g1, g2, g3, g4, g5, g6⟩
    · exact absurd h hc
    · simp only [g1]
      refine ⟨g2, g3, g4, fun hin => ?_, fun hout id' c' h1 h2 h3 => ?_⟩
      · refine hk id off c _ ⟨le_right h0 hle, .inr ⟨h0, hpos, rowIs.grow g1 g2 hin g4 g5 g6 hy⟩⟩ fun j o hj hne => ?_
        rw [upd_ne _ (hne.resolve_left hc)]; exact ⟨hj, hne⟩
      · have hn0 : st0 id' = none := by
          cases hs : st0 id' with
          | none => rfl
          | some o => rw [hle _ _ hs] at h1; cases h1
        rw [g5, ← List.flatten_append]
        have hr := rowIs.made (s := s) (id := id') (e := e) (sz := sz) (xs := xs ++ ys) (c := c') (List.replicate ((c' - (xs.length + ys.length)) * sz) .undef) (by simpa using h2) h3
          (fun x hx => by rcases List.mem_append.1 hx with hx | hx; exact g6 x hx; exact hy x hx) (by simp)
        exact hk id' 0 c' _ ⟨le_right hn0 hle, .inr ⟨hn0, by omega, hr⟩⟩ fun j o hj _ => ⟨le_upd h1 _ _ _ hj, .inr fun e => by rw [e, h1] at hj; cases hj⟩
theorem appr_intro {st0 s : St} {id off c e sz m b : Nat} {xs ys : List (List AV)} (ha : Acc st0 s id off c e sz xs) (hm : m = xs.length) (hy : ∀ y ∈ ys, y.length = sz)
    (hk : ∀ id' off' c' s', Acc st0 s' id' off' c' e sz (xs ++ ys) → (∀ j o, s j = some o → (c = 0 ∨ j ≠ id) → s' j = some o ∧ (c' = 0 ∨ j ≠ id')) → vo P n dsts l k Q (env.put d (.rowp id' off' sz (m + ys.length) c')) s') :
    otherK P n (.appr e sz b id off m c ys) d dsts l k Q env s := resK_appr ha hm hy hk
theorem sub_rowp (id off sz sz' : Nat) : AV.sub (.rowp id off sz 0 0) (.list sz' [] .clip) := by
  intro M x h
  generalize hxs : ([] : List (List AV)) = xs at h
  cases h with
  | nils _ _ ho' => exact .rowp0 _ _ _ _
  | list _ _ _ a cap g hF hg hl hc hm hoo =>
    subst hxs
    simp only [OwnOk, List.length_nil] at hoo
    subst hoo
    exact .rowp0 _ _ _ _
/-- An element's cells. -/
theorem rowIs.get {s : St} {id e sz : Nat} {xs : List (List AV)} {off c : Nat} (h : rowIs s id e sz xs off c) (i : Nat) (hi : i < xs.length) :
    ∃ cs, s id = some (.cells e cs) ∧ off + i * sz + sz ≤ cs.length ∧ (cs.drop (off + i * sz)).take sz = xs[i] := by
  obtain ⟨cs, h1, h2, h3, h4, h5, h6⟩ := h
  have hb : (i + 1) * sz ≤ xs.length * sz := Nat.mul_le_mul_right _ hi
  have hb2 : xs.length * sz ≤ c * sz := Nat.mul_le_mul_right _ h3
  rw [Nat.succ_mul] at hb
  refine ⟨cs, h1, by omega, ?_⟩
  have hlen : xs[i].length = sz := h6 _ (List.getElem_mem hi)
  apply List.ext_getElem?
  intro q
  rw [List.getElem?_take, List.getElem?_drop]
  by_cases hq : q < sz
  · rw [if_pos hq]
    have e1 := congrArg (·[i * sz + q]?) h5
    simp only [List.getElem?_take, List.getElem?_drop] at e1
    rw [if_pos (by omega), ← Nat.add_assoc] at e1
    rw [e1]
    have hg := flatten_get sz xs (fun i hi => h6 _ (by rw [List.getD_eq_getElem?_getD, List.getElem?_eq_getElem hi]; exact List.getElem_mem hi)) i q hi hq
    have hfl := flatten_take sz xs h6
    have hlt : i * sz + q < xs.flatten.length := by rw [hfl]; omega
    rw [List.getElem?_eq_getElem hlt, List.getElem?_eq_getElem (by omega : q < xs[i].length)]
    rw [List.getD_eq_getElem?_getD, List.getElem?_eq_getElem hlt, Option.getD_some, List.getD_eq_getElem?_getD (l := xs), List.getElem?_eq_getElem hi, Option.getD_some, List.getD_eq_getElem?_getD, List.getElem?_eq_getElem (by omega : q < xs[i].length), Option.getD_some] at hg
    rw [hg]
  · rw [if_neg hq, List.getElem?_eq_none (by omega)]
end

/-! ### what is known, in other words -/
/-- v' and s' say less than v and s, or the same in other words. -/
def Gh (v' : AV) (s' : St) (v : AV) (s : St) : Prop := ∀ B w0 M w, Inv B w0 M s w → ∃ M', M.le M' ∧ Inv B w0 M' s' w ∧ ∀ x, RepV M v x → RepV M' v' x
theorem Gh.of {v v' : AV} {s s' : St} (h : AV.sub v' v) (k : St.le s' s) : Gh v' s' v s := fun _ _ M _ hI => ⟨M, .refl M, hI.weaken k, fun x hx => h M x hx⟩
theorem Gh.trans {v v' v'' : AV} {s s' s'' : St} (h : Gh v' s' v s) (k : Gh v'' s'' v' s') : Gh v'' s'' v s := fun B w0 M w hI =>
  let ⟨M', h1, h2, h3⟩ := h B w0 M w hI
  let ⟨M'', k1, k2, k3⟩ := k B w0 M' w h2
  ⟨M'', h1.trans k1, k2, fun x hx => k3 x (h3 x hx)⟩
def GhE (e' : Env) (s' : St) (e : Env) (s : St) : Prop := ∀ B w0 M w, Inv B w0 M s w → ∃ M', M.le M' ∧ Inv B w0 M' s' w ∧ ∀ d x, RepV M (e d) x → RepV M' (e' d) x
theorem GhE.of {e e' : Env} {s s' : St} (h : Env.sub e' e) (k : St.le s' s) : GhE e' s' e s := fun _ _ M _ hI => ⟨M, .refl M, hI.weaken k, fun d x hx => h d M x hx⟩
theorem GhE.trans {e e' e'' : Env} {s s' s'' : St} (h : GhE e' s' e s) (k : GhE e'' s'' e' s') : GhE e'' s'' e s := fun B w0 M w hI =>
  let ⟨M', h1, h2, h3⟩ := h B w0 M w hI
  let ⟨M'', k1, k2, k3⟩ := k B w0 M' w h2
  ⟨M'', h1.trans k1, k2, fun d x hx => k3 d x (h3 d x hx)⟩
theorem dcall_gh {P : Program} {f : FuncId} {args : List AV} {st : St} {K K' : AV → St → Prop} (h : ∀ v s, K' v s → ∃ v' s', Gh v' s' v s ∧ K v' s') (hc : dcall P f args st K') : dcall P f args st K := by
  refine ⟨hc.1, fun B w0 M w vals hI hv => (hc.2 B w0 M w vals hI hv).mono ?_⟩
  rintro e w' ⟨x, M', v, s, h1, h2, h3, h4, h5⟩
  obtain ⟨v', s', k1, k2⟩ := h v s h5
  obtain ⟨M'', j1, j2, j3⟩ := k1 B w0 M' w' h3
  exact ⟨x, M'', v', s', h1, h2.trans j1, j2, j3 x h4, k2⟩
theorem dwp_gh {P : Program} {n : Nat} {c : Code} {Q : Exit → Env → St → Prop} {e e' : Env} {s s' : St} (h : GhE e' s' e s) (hc : dwp P n c Q e' s') : dwp P n c Q e s := by
  intro B w0 M a w hI hE
  obtain ⟨M', h1, h2, h3⟩ := h B w0 M w hI
  rw [← h1.ro]
  exact wpIn_mono (hc B w0 M' a w h2 ⟨hE.size, hE.defers.trans h1.ds.symm, fun d => h3 d _ (hE.slot d)⟩) fun _ _ _ hp => hp.le h1.lem
theorem lk_gh {P : Program} {n : Nat} {c : Code} {k : Kont} {Q : Exit → Env → St → Prop} {e e' : Env} {s s' : St} (h : GhE e' s' e s) (hc : lk P n c k Q e' s') : lk P n c k Q e s := dwp_gh h hc
/-- A call whose arguments are known in other words. -/
theorem dcall_args {P : Program} {f : FuncId} {args args' : List AV} {st st' : St} {K : AV → St → Prop} (hl : args'.length = args.length) (h : ∀ B w0 M w, Inv B w0 M st w → ∃ M', M.le M' ∧ Inv B w0 M' st' w ∧ ∀ j x, RepV M (args.getD j .undef) x → RepV M' (args'.getD j .undef) x)
    (hc : dcall P f args' st' K) : dcall P f args st K := by
  refine ⟨hc.1, fun B w0 M w vals hI hv => ?_⟩
  obtain ⟨M', h1, h2, h3⟩ := h B w0 M w hI
  refine (hc.2 B w0 M' w vals h2 ⟨hv.1.trans hl.symm, fun j => h3 j _ (hv.2 j)⟩).mono ?_
  rintro e w' ⟨x, M'', v, s, k1, k2, k3, k4, k5⟩
  exact ⟨x, M'', v, s, k1, h1.trans k2, k3, k4, k5⟩

/-- A box's contents are told of with fewer words. -/
theorem ghE_cell {env : Env} {st : St} {p t : Nat} {cs cs' : List AV} (h : st p = some (.cells t cs)) (hl : cs'.length = cs.length) (hs : ∀ j, AV.sub (cs'.getD j .undef) (cs.getD j .undef)) : GhE env (st.upd p (.cells t cs')) env st := by
  intro B w0 M w hI
  have key : ∀ i x, (st.upd p (.cells t cs')) i = some x → (i = p ∧ x = .cells t cs') ∨ (i ≠ p ∧ st i = some x) := fun i x e => upd_key' e
  refine ⟨M, .refl M, ⟨hI.below, hI.size, hI.mem, fun i x e => ?_, fun i j oi oj ei ej hp => ?_, fun i x e => ?_, hI.oth, hI.rnd⟩, fun d x hx => hx⟩
  · rcases key i x e with ⟨rfl, _⟩ | ⟨_, e⟩
    · exact hI.dom _ _ h
    · exact hI.dom _ _ e
  · have key2 : ∀ i x, (st.upd p (.cells t cs')) i = some x → ∃ y, st i = some y := by
      intro i x e
      rcases key i x e with ⟨rfl, _⟩ | ⟨_, e⟩
      · exact ⟨_, h⟩
      · exact ⟨_, e⟩
    obtain ⟨_, fi⟩ := key2 i oi ei
    obtain ⟨_, fj⟩ := key2 j oj ej
    exact hI.inj i j _ _ fi fj hp
  · rcases key i x e with ⟨rfl, rfl⟩ | ⟨_, e⟩
    · obtain ⟨h1, arr, h2, h3, h4, h5⟩ := hI.obj _ _ h
      exact ⟨h1, arr, h2, h3.trans hl.symm, fun j => hs j M _ (h4 j), h5⟩
    · exact hI.obj _ _ e
/-- An object changes no more. -/
theorem freeze {B : Nat} {w0 w : World} {M : Mem} {s : St} {id e : Nat} {cs : List AV} (hI : Inv B w0 M s w) (hs : s id = some (.cells e cs)) :
    ∃ M', M.le M' ∧ Inv B w0 M' (s.del id) w ∧ ∀ off sz c xs, off + c * sz ≤ cs.length → xs.length ≤ c → (cs.drop off).take (xs.length * sz) = xs.flatten → (∀ x ∈ xs, x.length = sz) → ∀ x, RepV M (.rowp id off sz xs.length c) x → RepV M' (.list sz xs .no) x := by
  obtain ⟨hB, arr, a1, a2, a3, a4⟩ := hI.obj id _ hs
  let M' : Mem := { M with F := fun a => if a.block = M.pos id ∧ a.spot = none then arr[a.off]? else M.F a }
  have hle : M.le M' := by
    refine ⟨⟨fun a v h => ?_, Nat.le_refl _, fun _ _ => rfl, fun _ _ => rfl⟩, fun _ _ h => h, rfl, rfl⟩
    show (if _ then _ else _) = _
    rw [if_neg (fun hc => by rw [a4 a hc.1] at h; cases h)]; exact h
  have key : ∀ i x, (s.del id) i = some x → i ≠ id ∧ s i = some x := by
    intro i x h
    simp only [St.del] at h
    split at h
    · cases h
    · rename_i hi; exact ⟨hi, h⟩
  refine ⟨M', hle, ⟨hI.below, hI.size, fun a v h => ?_, fun i x h => hI.dom i x (key i x h).2, fun i j oi oj hi hj => hI.inj i j oi oj (key _ _ hi).2 (key _ _ hj).2, fun i x h => ?_, hI.oth, hI.rnd⟩, ?_⟩
  · by_cases hc : a.block = M.pos id ∧ a.spot = none
    · have h' : arr[a.off]? = some v := by
        have : (if a.block = M.pos id ∧ a.spot = none then arr[a.off]? else M.F a) = some v := h
        rwa [if_pos hc] at this
      have : a = ⟨M.pos id, a.off, none⟩ := by cases a; simp_all
      rw [this, cell_of_row w _ _ _ _ _ a1]; exact h'
    · have h' : M.F a = some v := by
        have : (if a.block = M.pos id ∧ a.spot = none then arr[a.off]? else M.F a) = some v := h
        rwa [if_neg hc] at this
      exact hI.mem a v h'
  · obtain ⟨h1, h2⟩ := key i x h
    have hne : M.pos i ≠ M.pos id := fun hp => h1 (hI.inj i id x _ h2 hs hp)
    refine ⟨(hI.obj i x h2).1, (hI.obj i x h2).2.keep hle rfl fun a ha => ?_⟩
    show (if _ then _ else _) = _
    rw [if_neg (fun hc => hne (ha.symm.trans hc.1))]
  · intro off sz c xs h1 h2 h3 h4 x hx
    have hin : ∀ i j, i < xs.length → j < sz → i * sz + j < xs.length * sz ∧ off + (i * sz + j) < cs.length := by
      intro i j hi hj
      have hb : (i + 1) * sz ≤ xs.length * sz := Nat.mul_le_mul_right _ hi
      have hb2 : xs.length * sz ≤ c * sz := Nat.mul_le_mul_right _ h2
      rw [Nat.succ_mul] at hb
      exact ⟨by omega, by omega⟩
    have hl4 : ∀ i, i < xs.length → (xs.getD i []).length = sz := fun i hi => h4 _ (by rw [List.getD_eq_getElem?_getD, List.getElem?_eq_getElem hi]; exact List.getElem_mem hi)
    have fin : ∀ ad, c ≤ maxLen → (∀ i j, i < xs.length → j < sz → M'.F (ad.add (i * sz + j)) = some (arr.getD (off + (i * sz + j)) Go.undef)) → RepV M' (.list sz xs .no) (.slice (some ad) xs.length c) := by
      intro ad hm hF
      refine .list sz xs .no ad c (fun i j => arr.getD (off + (i * sz + j)) Go.undef) hF (fun i j => ?_) hl4 h2 hm trivial
      by_cases hi : i < xs.length
      · by_cases hj : j < sz
        · have hb := hin i j hi hj
          rw [← flatten_get sz xs hl4 i j hi hj, ← h3]
          have := a3 (off + (i * sz + j))
          rw [getD_take, if_pos hb.1, getD_drop]
          exact this.mono hle
        · have : (xs.getD i []).getD j .undef = .undef := by
            rw [List.getD_eq_getElem?_getD, List.getElem?_eq_none (by rw [hl4 i hi]; omega)]; rfl
          rw [this]; exact .undef _
      · have : xs.getD i [] = [] := by rw [List.getD_eq_getElem?_getD, List.getElem?_eq_none (by omega)]; rfl
        rw [this]; exact .undef _
    generalize hn : xs.length = nn at hx
    cases hx with
    | rowp _ _ _ _ _ hid hmc hcm =>
      subst hn
      refine fin _ hcm fun i j hi hj => ?_
      have hb := hin i j hi hj
      rw [addr_add]
      show (if _ then _ else _) = _
      rw [if_pos ⟨rfl, rfl⟩]
      have : off + (i * sz + j) < arr.size := by omega
      simp [this]
    | rowp0 _ _ _ b =>
      have hx0 : xs = [] := List.length_eq_zero_iff.1 hn
      subst hx0
      cases b with
      | none => exact .nils _ _ (fun _ e => by cases e)
      | some ad => exact fin ad (by unfold maxLen; omega) fun i j hi => by simp at hi
theorem del_le {st0 s : St} {id : Nat} (h : St.le st0 s) (h0 : st0 id = none) : St.le st0 (s.del id) := le_del h0 h
/-- A row that was made is done. -/
theorem acc_freeze {B : Nat} {w0 w : World} {M : Mem} {st0 s : St} {id off c e sz : Nat} {xs : List (List AV)} (ha : Acc st0 s id off c e sz xs) (hI : Inv B w0 M s w) :
    ∃ M', M.le M' ∧ Inv B w0 M' st0 w ∧ ∀ x, RepV M (.rowp id off sz xs.length c) x → RepV M' (.list sz xs .no) x := by
  rcases ha.ok with ⟨rfl, rfl⟩ | ⟨h0, _, cs, g1, g2, g3, g4, g5, g6⟩
  · refine ⟨M, .refl M, hI.weaken ha.le, fun x hx => ?_⟩
    simp only [List.length_nil] at hx
    generalize hn : (0 : Nat) = nn at hx
    cases hx with
    | rowp => subst hn; exact .list sz [] .no _ 0 (fun _ _ => Go.undef) (fun i j hi => by simp at hi) (fun i j => .undef _) (fun i hi => by simp at hi) (Nat.le_refl _) (by unfold maxLen; omega) trivial
    | rowp0 _ _ _ b =>
      cases b with
      | none => exact .nils _ _ (fun _ e => by cases e)
      | some a => exact .list sz [] .no _ 0 (fun _ _ => Go.undef) (fun i j hi => by simp at hi) (fun i j => .undef _) (fun i hi => by simp at hi) (Nat.le_refl _) (by unfold maxLen; omega) trivial
  · obtain ⟨M', h1, h2, h3⟩ := freeze hI g1
    exact ⟨M', h1, h2.weaken (del_le ha.le h0), h3 off sz c xs g2 g3 g5 g6⟩
theorem gh_row {st0 s : St} {id off c e sz : Nat} {xs : List (List AV)} (ha : Acc st0 s id off c e sz xs) : Gh (.list sz xs .no) st0 (.rowp id off sz xs.length c) s := fun _ _ _ _ hI => acc_freeze ha hI
theorem ghE_row {st0 s : St} {id off c e sz m : Nat} {xs : List (List AV)} (ha : Acc st0 s id off c e sz xs) (hm : m = xs.length) {l : List (Nat × AV)} {env : Env}
    (h : ∀ p ∈ l, AV.sub p.2 (env p.1) ∨ (env p.1 = .rowp id off sz m c ∧ AV.sub p.2 (.list sz xs .no))) : GhE (Env.ofList l) st0 env s := by
  subst hm
  intro B w0 M w hI
  obtain ⟨M', h1, h2, h3⟩ := acc_freeze ha hI
  refine ⟨M', h1, h2, fun d x hx => ?_⟩
  induction l with
  | nil => exact .undef _
  | cons p l ih =>
    obtain ⟨k, v⟩ := p
    simp only [Env.ofList]
    by_cases hd : d = k
    · rw [if_pos hd]
      subst hd
      rcases h (d, v) (by simp) with hh | ⟨h4, h5⟩
      · exact hh M' x (hx.mono h1)
      · rw [h4] at hx
        exact h5 M' x (h3 x hx)
    · rw [if_neg hd]; exact ih fun q hq => h q (by simp [hq])
/-- A call on a row that changes no more. -/
theorem dcall_row {P : Program} {f : FuncId} {args args' : List AV} {st0 s : St} {id off c e sz m : Nat} {xs : List (List AV)} {K : AV → St → Prop} (ha : Acc st0 s id off c e sz xs) (hm : m = xs.length) (hl : args'.length = args.length)
    (h : ∀ j, AV.sub (args'.getD j .undef) (args.getD j .undef) ∨ (args.getD j .undef = .rowp id off sz m c ∧ AV.sub (args'.getD j .undef) (.list sz xs .no))) (hc : dcall P f args' st0 K) : dcall P f args s K := by
  subst hm
  refine dcall_args hl (fun B w0 M w hI => ?_) hc
  obtain ⟨M', h1, h2, h3⟩ := acc_freeze ha hI
  refine ⟨M', h1, h2, fun j x hx => ?_⟩
  rcases h j with hh | ⟨h4, h5⟩
  · exact hh M' x (hx.mono h1)
  · rw [h4] at hx; exact h5 M' x (h3 x hx)

section
variable {P : Program} {n : Nat} {Q : Exit → Env → St → Prop} {env : Env} {st : St} {k : Kont}
theorem dwp_loop_gh {α : Type} {c : Code} (I : α → Env) (S : α → St) (ok : α → Prop) (μ : α → Nat) (x0 : α) (h0 : ok x0) (he : GhE (I x0) (S x0) env st)
    (round : ∀ x, ok x → ∀ K : Env → St → Prop, (∀ y env st, ok y → μ y < μ x → GhE (I y) (S y) env st → K env st) → dwp P n c (thenQ K Q) (I x) (S x)) : dwp P n (.loop c) Q env st := by
  refine dwp_gh he ?_
  intro B w0 M a w hI hE
  refine wpIn_loop_ghost (fun m a w => ∃ x M', m = μ x ∧ ok x ∧ M.lem M' ∧ Inv B w0 M' (S x) w ∧ RepE M' n (I x) a) (μ x0) ⟨x0, M, rfl, h0, .refl M, hI, hE⟩ ?_
  rintro m a' w' ⟨x, M', rfl, hok, hM, hI', hE'⟩
  rw [← hM.ro]
  have := round x hok (fun e s => ∃ y, ok y ∧ μ y < μ x ∧ GhE (I y) (S y) e s) (fun y e s h1 h2 h3 => ⟨y, h1, h2, h3⟩) B w0 M' a' w' hI' hE'
  refine wpIn_mono this fun e a2 w2 hp => ?_
  cases e with
  | normal =>
    obtain ⟨M2, e2, s2, k1, k2, k3, y, k4, k5, k6⟩ := hp
    obtain ⟨M3, j1, j2, j3⟩ := k6 B w0 M2 w2 k2
    exact ⟨μ y, k5, y, M3, rfl, k4, (hM.trans k1).trans j1.lem, j2, ⟨k3.size, k3.defers.trans j1.ds.symm, fun d => j3 d _ (k3.slot d)⟩⟩
  | _ => exact hp.le hM
theorem lk_loop_gh {α : Type} {c : Code} (I : α → Env) (S : α → St) (ok : α → Prop) (μ : α → Nat) (x0 : α) (hc : codeOk n c = true) (h0 : ok x0) (he : GhE (I x0) (S x0) env st)
    (round : ∀ x, ok x → ∀ R : Exit → Env → St → Prop, (∀ y env st, ok y → μ y < μ x → GhE (I y) (S y) env st → R .normal env st) → (∀ e env st, e ≠ .normal → kk P n e k Q env st → R e env st) → vk P n c .base R (I x) (S x)) : lk P n (.loop c) k Q env st := by
  refine dwp_loop_gh I S ok μ x0 h0 he fun x hx K hK => vc_sound c hc ?_
  refine round x hx (thenQ K (QK P n Q k)) (fun y env st h1 h2 h3 => hK y env st h1 h2 h3) fun e env st hne h => ?_
  cases e <;> first | exact absurd rfl hne | exact h
end
end Go.Sh
