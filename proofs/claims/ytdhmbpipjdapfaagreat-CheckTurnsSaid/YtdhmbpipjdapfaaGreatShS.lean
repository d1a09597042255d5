/- Shadow logic, part S: conditions by computation. -/
import Derived.Test.YtdhmbpipjdapfaaGreatShR
import Derived.Scope
namespace Go.Sh
open Go.RowKit
section
variable {P : Program} {n : Nat}

/-! ### values of a test, behind which nothing is looked into -/
def testVC (x : AV) (A B : Prop) : Prop := (x = .bool true ∧ A) ∨ (x = .bool false ∧ B)
theorem testVC_true {A B : Prop} : testVC (.bool true) A B = A := by simp [testVC]
theorem testVC_false {A B : Prop} : testVC (.bool false) A B = B := by simp [testVC]
theorem testVC_dec {c : Prop} [Decidable c] {A B : Prop} : testVC (.bool (decide c)) A B ↔ if c then A else B := by
  by_cases h : c <;> simp [testVC, h]
theorem testVC_congr {x x' : AV} {A B : Prop} (h : x = x') : testVC x A B = testVC x' A B := by rw [h]

def dstAt (dsts : List (Option Nat)) (j : Nat) : Nat := (dsts.getD j none).getD 0
def guardAV (w : Bool) : AV → AV
  | .bool b => .bool (b == w)
  | .tup _ => .bool false
  | _ => .undef
def vcs (P : Program) (n : Nat) (dsts : List (Option Nat)) : List Oper → Env → St → (Env → St → Prop) → Prop
  | [], env, st, K => K env st
  | o :: r, env, st, K => match o.guard with
    | none => resK P (evalOp P env.op o.op) st (fun v st' => vcs P n dsts r (env.put o.dst v) st' K)
    | some (j, w) => testVC (guardAV w (env (dstAt dsts j))) (resK P (evalOp P env.op o.op) st (fun v st' => vcs P n dsts r (env.put o.dst v) st' K)) (vcs P n dsts r (env.put o.dst (.tup [])) st K)
/-- What needs no look at values. -/
def opsOk (n : Nat) (ops : List Oper) : Bool := ops.all fun o => gOk (ops.map (·.dst)) o.guard && dstOk n o.dst
theorem dround_mono {id : Nat} {args : List AV} {o : Option AObj} {st : St} {K K' : AV → St → Prop} (h : ∀ v s, K v s → K' v s) (hr : dround P id args o st K) : dround P id args o st K' := by
  unfold dround at hr ⊢
  split at hr
  · refine ⟨hr.1, hr.2.1, dwp_mono (fun e env st hk => ?_) hr.2.2⟩
    cases e <;> try exact hk
    refine dwp_mono (fun e env st hk => ?_) hk
    cases e <;> first | exact h _ _ hk | exact hk
  · exact hr.elim
theorem resK_mono {r : ORes} {st : St} {K K' : AV → St → Prop} (h : ∀ v s, K v s → K' v s) (hr : resK P r st K) : resK P r st K' := by
  cases r with
  | val v => exact h _ _ hr
  | load id off m ag => obtain ⟨t, cs, h1, h2, h3⟩ := resK_load hr; unfold resK; simp only [h1]; exact ⟨h2, h _ _ h3⟩
  | store id off vs => obtain ⟨t, cs, h1, h2, h3⟩ := resK_store hr; unfold resK; simp only [h1]; exact ⟨h2, h _ _ h3⟩
  | new t cs => exact fun id hid => h _ _ (hr id hid)
  | lit sz xs => exact h _ _ hr
  | app e sz by_ xs ys o =>
    rcases hr with ⟨st0, h1, h2⟩ | ⟨h1, h2, h3, h4⟩
    · exact .inl ⟨st0, h1, fun o' st' ho => h _ _ (h2 o' st' ho)⟩
    · exact .inr ⟨h1, h2, fun e => h _ _ (h3 e), fun e id c k1 k2 k3 => h _ _ (h4 e id c k1 k2 k3)⟩
  | appr e sz by_ id off n c ys =>
    unfold resK at hr ⊢
    simp only at hr ⊢
    by_cases hc : c = 0
    · rw [if_pos hc] at hr ⊢
      exact ⟨hr.1, fun e => h _ _ (hr.2.1 e), fun e i c' k1 k2 k3 => h _ _ (hr.2.2 e i c' k1 k2 k3)⟩
    rw [if_neg hc] at hr ⊢
    split at hr
    · obtain ⟨h1, h2, h3, h4, h5⟩ := hr
      exact ⟨h1, h2, h3, fun e => h _ _ (h4 e), fun e i c' k1 k2 k3 => h _ _ (h5 e i c' k1 k2 k3)⟩
    · exact hr.elim
  | mnew => exact fun id hid => h _ _ (hr id hid)
  | mget id k key ok z =>
    unfold resK at hr ⊢
    simp only at hr ⊢
    split at hr
    · split at hr
      · exact h _ _ hr
      · exact h _ _ hr
      · exact hr.elim
    · exact hr.elim
  | mset id k key v =>
    unfold resK at hr ⊢
    simp only at hr ⊢
    split at hr
    · split at hr
      · exact h _ _ hr
      · exact h _ _ hr
      · exact hr.elim
    · exact hr.elim
  | mdel id k key =>
    unfold resK at hr ⊢
    simp only at hr ⊢
    split at hr
    · split at hr
      · exact h _ _ hr
      · exact h _ _ hr
      · exact hr.elim
    · exact hr.elim
  | mlen id =>
    unfold resK at hr ⊢
    simp only at hr ⊢
    split at hr
    · exact h _ _ hr
    · exact hr.elim
  | mrange id =>
    unfold resK at hr ⊢
    simp only at hr ⊢
    split at hr
    · exact fun i hi => h _ _ (hr i hi)
    · exact hr.elim
  | mnext id =>
    unfold resK at hr ⊢
    simp only at hr ⊢
    split at hr
    · split at hr
      · exact ⟨hr.1, hr.2.1, fun e => h _ _ (hr.2.2.1 e), fun e he => h _ _ (hr.2.2.2 e he)⟩
      · exact hr.elim
    · exact hr.elim
  | mentry id =>
    unfold resK at hr ⊢
    simp only at hr ⊢
    split at hr
    · split at hr
      · obtain ⟨h1, h2, e, s', h3, h4, h5⟩ := hr
        exact ⟨h1, h2, e, s', h3, h4, h _ _ h5⟩
      · exact hr.elim
    · exact hr.elim
  | call f args =>
    obtain ⟨h1, h2⟩ := hr
    exact ⟨h1, fun B w0 M w vals hI hv => (h2 B w0 M w vals hI hv).mono fun e w' ⟨x, M', v, st', k1, k2, k3, k4, k5⟩ => ⟨x, M', v, st', k1, k2, k3, k4, h _ _ k5⟩⟩
  | yield id args => exact dround_mono h hr
  | stuck => exact hr.elim
theorem dcall_mono {f : FuncId} {args : List AV} {st : St} {K K' : AV → St → Prop} (h : ∀ v s, K v s → K' v s) (hr : dcall P f args st K) : dcall P f args st K' := resK_mono (r := .call f args) h hr
theorem vcs_ops {dsts : List (Option Nat)} {K : Env → St → Prop} : ∀ (l : List Oper) {env : Env} {st : St}, (l.all fun o => gOk dsts o.guard && dstOk n o.dst) = true → vcs P n dsts l env st K → vcOps P n dsts l env st K
  | [], _, _, _, h => h
  | o :: r, env, st, hc, h => by
    simp only [List.all_cons, Bool.and_eq_true] at hc
    refine ⟨hc.1.1, hc.1.2, ?_⟩
    unfold vcs at h
    cases hg : o.guard with
    | none =>
      simp only [hg, gslot, guardV] at h ⊢
      exact resK_mono (fun v s hk => vcs_ops r hc.2 hk) h
    | some p =>
      obtain ⟨j, w⟩ := p
      have hj : gslot dsts (some (j, w)) = some (dstAt dsts j, w) := by
        simp only [gslot, dstAt, List.getD_eq_getElem?_getD]
        generalize dsts[j]? = y
        rcases y with _ | _ | s <;> rfl
      simp only [hg, hj, guardV] at h ⊢
      cases he : env (dstAt dsts j) <;> simp only [he, guardAV] at h ⊢ <;> try (simp [testVC] at h; done)
      case tup vs =>
        simp only [testVC, AV.bool.injEq, Bool.false_eq_true, false_and, false_or, true_and] at h
        exact vcs_ops r hc.2 h
      rename_i b
      by_cases hb : b == w
      · simp only [hb, testVC, true_and, AV.bool.injEq, Bool.true_eq_false, false_and, or_false] at h ⊢
        exact resK_mono (fun v s hk => vcs_ops r hc.2 hk) h
      · have hb' : (b == w) = false := by simpa using hb
        simp only [hb', testVC, AV.bool.injEq, Bool.false_eq_true, false_and, false_or, true_and] at h ⊢
        exact vcs_ops r hc.2 h

/-! ### a scope, if no jump leaves it -/
theorem stepR_scope {b : Frame} {a : Act} {k : List Item} {cs : List Frame} {w : World} {c : Code} : step P (lone (b.atR a (.code (.scope c) :: k)) cs w) = .next (lone (b.atR a (.code c :: .inScope c :: k)) cs w) :=
  step_lone_go (by simp [stepG, stepG.exec, Frame.atR])
theorem stepR_inScope {b : Frame} {a : Act} {k : List Item} {cs : List Frame} {w : World} {c : Code} : step P (lone (b.atR a (.inScope c :: k)) cs w) = .next (lone (b.atR a k) cs w) :=
  step_lone_go (by simp [stepG, stepG.exec, Frame.atR])
theorem wpIn_scope_straight {F : Fence} {m : Nat} {Q : Exit → Act → World → Prop} {a : Act} {w : World} {c : Code} (h : c.wpIn F m P (Exit.noGoto Q) a w) : (Code.scope c).wpIn F m P Q a w := by
  intro b k cs hro hb hr
  have h0 : (lone (b.atR a (.code (.scope c) :: k)) cs w).fenced P F := fenced_calm hb hr rfl
  obtain ⟨e, a₁, w₁, hq, harr⟩ := h b (.inScope c :: k) cs hro hb hr
  cases e with
  | normal => exact ⟨.normal, a₁, w₁, hq, .head h0 stepR_scope (StepsIn.trans harr (.one (fenced_calm hb hr rfl) stepR_inScope))⟩
  | exit id =>
    have hx : exitTo id (.inScope c :: k) = exitTo id k := by simp [exitTo]
    exact ⟨.exit id, a₁, w₁, hq, fun k' hk => .head h0 stepR_scope (harr.1 k' (by rw [hx]; exact hk)),
      fun hr' hk => let ⟨k₁, h1, h2⟩ := harr.2 hr' (by rw [hx]; exact hk); ⟨k₁, h1, .head h0 stepR_scope h2⟩⟩
  | goto l => exact hq.elim
  | ret => exact ⟨_, a₁, w₁, hq, .of_steps (.one h0 stepR_scope) harr⟩
  | panic ch => exact ⟨_, a₁, w₁, hq, .of_steps (.one h0 stepR_scope) harr⟩
  | outgrown => exact ⟨_, a₁, w₁, hq, .of_steps (.one h0 stepR_scope) harr⟩
def scopeQ (Q : Exit → Env → St → Prop) : Exit → Env → St → Prop
  | .goto _ => fun _ _ => False
  | e => Q e
theorem dwp_scope {Q : Exit → Env → St → Prop} {env : Env} {st : St} {c : Code} (h : dwp P n c (scopeQ Q) env st) : dwp P n (.scope c) Q env st := by
  intro B w0 M a w hI hE
  refine wpIn_scope_straight (wpIn_mono (h B w0 M a w hI hE) fun e a' w' hp => ?_)
  cases e with
  | goto l => obtain ⟨_, _, _, _, _, _, h⟩ := hp; exact h.elim
  | _ => exact hp

def vc (P : Program) (n : Nat) : Code → (Exit → Env → St → Prop) → Env → St → Prop
  | .skip, Q, env, st => Q .normal env st
  | .label _, Q, env, st => Q .normal env st
  | .ret, Q, env, st => Q .ret env st
  | .exit id, Q, env, st => Q (.exit id) env st
  | .goto l, Q, env, st => Q (.goto l) env st
  | .seq a b, Q, env, st => vc P n a (thenQ (fun e s => vc P n b Q e s) Q) env st
  | .cond x a b, Q, env, st => testVC (env.op x) (vc P n a Q env st) (vc P n b Q env st)
  | .block id a, Q, env, st => vc P n a (blockQ id Q) env st
  | .scope a, Q, env, st => vc P n a (scopeQ Q) env st
  | .region id ops false, Q, env, st => vcs P n (ops.toList.map (·.dst)) ops.toList env st (Q .normal)
  | c, Q, env, st => dwp P n c Q env st
/-- What needs no look at values, of a body. -/
def codeOk (n : Nat) : Code → Bool
  | .seq a b => codeOk n a && codeOk n b
  | .cond _ a b => codeOk n a && codeOk n b
  | .block _ a => codeOk n a
  | .scope a => codeOk n a
  | .region _ ops false => opsOk n ops.toList
  | _ => true
theorem vc_sound : ∀ (c : Code) {Q : Exit → Env → St → Prop} {env : Env} {st : St}, codeOk n c = true → vc P n c Q env st → dwp P n c Q env st := by
  intro c
  induction c with
  | skip => intro Q env st _ h; exact dwp_skip h
  | label l => intro Q env st _ h; exact dwp_label h
  | ret => intro Q env st _ h; exact dwp_ret h
  | exit _ => intro Q env st _ h; exact dwp_exit h
  | goto l => intro Q env st _ h; exact dwp_goto h
  | seq a b iha ihb =>
    intro Q env st hc h
    simp only [codeOk, Bool.and_eq_true] at hc
    refine dwp_seq (dwp_mono (fun e env st hk => ?_) (iha hc.1 h))
    cases e with
    | normal => exact ihb hc.2 hk
    | _ => exact hk
  | cond x a b iha ihb =>
    intro Q env st hc h
    simp only [codeOk, Bool.and_eq_true] at hc
    rcases h with ⟨hx, h⟩ | ⟨hx, h⟩
    · exact dwp_cond hx (fun _ => iha hc.1 h) (fun e => by cases e)
    · exact dwp_cond hx (fun e => by cases e) (fun _ => ihb hc.2 h)
  | block _ a iha => intro Q env st hc h; exact dwp_block (iha hc h)
  | region _ ops d =>
    intro Q env st hc h
    cases d with
    | false => exact dwp_region (vcs_ops _ hc h)
    | true => exact h
  | loop a _ => intro Q env st _ h; exact h
  | rangeFunc f ps a b _ _ => intro Q env st _ h; exact h
  | scope a iha => intro Q env st hc h; exact dwp_scope (iha hc h)
  | refuse w => intro Q env st _ h; exact h

/-! ### the rules, for simp -/
section
variable {Q : Exit → Env → St → Prop} {env : Env} {st : St} {K : AV → St → Prop}
theorem vc_skip : vc P n .skip Q env st = Q .normal env st := rfl
theorem vc_label {l : Nat} : vc P n (.label l) Q env st = Q .normal env st := rfl
theorem vc_ret : vc P n .ret Q env st = Q .ret env st := rfl
theorem vc_exit {id : Nat} : vc P n (.exit id) Q env st = Q (.exit id) env st := rfl
theorem vc_seq {a b : Code} : vc P n (.seq a b) Q env st = vc P n a (thenQ (fun e s => vc P n b Q e s) Q) env st := rfl
theorem vc_cond {x : Operand} {a b : Code} : vc P n (.cond x a b) Q env st = testVC (env.op x) (vc P n a Q env st) (vc P n b Q env st) := rfl
theorem vc_block {id : Nat} {a : Code} : vc P n (.block id a) Q env st = vc P n a (blockQ id Q) env st := rfl
theorem vc_region {id : Nat} {ops : List Oper} : vc P n (.region id ops.toArray false) Q env st = vcs P n (ops.map (·.dst)) ops env st (Q .normal) := rfl
theorem vc_draw {id : Nat} {ops : Array Oper} : vc P n (.region id ops true) Q env st = dwp P n (.region id ops true) Q env st := rfl
theorem vc_loop {a : Code} : vc P n (.loop a) Q env st = dwp P n (.loop a) Q env st := rfl
theorem vcs_nil {dsts : List (Option Nat)} {K : Env → St → Prop} : vcs P n dsts [] env st K = K env st := rfl
theorem vcs_plain {dsts : List (Option Nat)} {K : Env → St → Prop} {d : Option Nat} {op : Op} {t : TypeId} {p : String} {af : Array Edge} {r : List Oper} :
    vcs P n dsts (⟨d, op, t, p, af, none⟩ :: r) env st K = resK P (evalOp P env.op op) st (fun v st' => vcs P n dsts r (env.put d v) st' K) := rfl
theorem vcs_guard {dsts : List (Option Nat)} {K : Env → St → Prop} {d : Option Nat} {op : Op} {t : TypeId} {p : String} {af : Array Edge} {r : List Oper} {j : Nat} {w : Bool} :
    vcs P n dsts (⟨d, op, t, p, af, some (j, w)⟩ :: r) env st K = testVC (guardAV w (env (dstAt dsts j))) (resK P (evalOp P env.op op) st (fun v st' => vcs P n dsts r (env.put d v) st' K)) (vcs P n dsts r (env.put d (.tup [])) st K) := rfl
@[simp] theorem guardAV_tup (w : Bool) (vs : List AV) : guardAV w (.tup vs) = .bool false := Eq.trans rfl rfl
theorem guardAV_bool (w b : Bool) : guardAV w (.bool b) = .bool (b == w) := Eq.trans rfl rfl
theorem thenQ_normal {K : Env → St → Prop} : thenQ K Q .normal = K := rfl
theorem thenQ_ret {K : Env → St → Prop} : thenQ K Q .ret = Q .ret := rfl
theorem thenQ_exit {K : Env → St → Prop} {i : Nat} : thenQ K Q (.exit i) = Q (.exit i) := rfl
theorem thenQ_goto {K : Env → St → Prop} {i : Nat} : thenQ K Q (.goto i) = Q (.goto i) := rfl
theorem blockQ_normal {id : Nat} : blockQ id Q .normal = Q .normal := rfl
theorem blockQ_ret {id : Nat} : blockQ id Q .ret = Q .ret := rfl
theorem blockQ_goto {id i : Nat} : blockQ id Q (.goto i) = Q (.goto i) := rfl
theorem blockQ_exit {id i : Nat} : blockQ id Q (.exit i) = if i = id then Q .normal else Q (.exit i) := rfl
theorem put_app (e : Env) (d : Nat) (v : AV) (i : Nat) : (Env.put e (some d) v) i = if i = d then v else e i := Eq.trans rfl rfl
theorem put_none (e : Env) (v : AV) : Env.put e none v = e := Eq.trans rfl rfl
theorem ofList_app (d : Nat) (v : AV) (r : List (Nat × AV)) (i : Nat) : (Env.ofList ((d, v) :: r)) i = if i = d then v else Env.ofList r i := Eq.trans rfl rfl
theorem ofList_nil (i : Nat) : (Env.ofList []) i = .undef := Eq.trans rfl rfl
theorem args_app (v : AV) (r : List AV) (k i : Nat) : (Env.args (v :: r) k) i = if i = k then v else Env.args r (k + 1) i := Eq.trans rfl rfl
theorem args_nil (k i : Nat) : (Env.args [] k) i = .undef := Eq.trans rfl rfl
theorem op_tmp (e : Env) (t : Nat) : Env.op e (.tmp t) = e t := Eq.trans rfl rfl
theorem op_const (e : Env) (v : Value) : Env.op e (.const v) = zAV v := Eq.trans rfl rfl
theorem op_func (e : Env) (f : FuncId) : Env.op e (.func f) = .fn f [] := Eq.trans rfl rfl
theorem resK_new {t : TypeId} {cs : List AV} : resK P (.new t cs) st K = ∀ id, st id = none → K (.box id 0) (st.upd id (.cells t cs)) := rfl
theorem resK_lit {sz : Nat} {xs : List (List AV)} : resK P (.lit sz xs) st K = K (.list sz xs .clip) st := rfl
theorem resK_call {f : FuncId} {args : List AV} : resK P (.call f args) st K = dcall P f args st K := rfl
/-- What a box holds. -/
def cellsAt (st : St) (id : Nat) : Option (TypeId × List AV) := match st id with | some (.cells t cs) => some (t, cs) | _ => none
def loadVC (c : Option (TypeId × List AV)) (off n : Nat) (ag : Bool) (K : AV → Prop) : Prop := match c with
  | some (_, cs) => off + n ≤ cs.length ∧ K (if ag then .agg ((cs.drop off).take n) else cs.getD off .undef)
  | none => False
def storeVC (c : Option (TypeId × List AV)) (off : Nat) (vs : List AV) (K : AObj → Prop) : Prop := match c with
  | some (t, cs) => off + vs.length ≤ cs.length ∧ K (.cells t (spliceL cs off vs))
  | none => False
theorem cellsAt_some {id : Nat} {t : TypeId} {cs : List AV} (h : cellsAt st id = some (t, cs)) : st id = some (.cells t cs) := by
  unfold cellsAt at h
  split at h
  · rename_i t' cs' he; injection h with h; injection h with h1 h2; rw [he, h1, h2]
  · cases h
theorem resK_load' {id off m : Nat} {ag : Bool} : resK P (.load id off m ag) st K = loadVC (cellsAt st id) off m ag (fun v => K v st) := by
  apply propext
  constructor
  · intro h
    obtain ⟨t, cs, h1, h2, h3⟩ := resK_load h
    have : cellsAt st id = some (t, cs) := by simp [cellsAt, h1]
    rw [this]; exact ⟨h2, h3⟩
  · intro h
    unfold loadVC at h
    split at h
    · rename_i t cs he
      have := cellsAt_some he
      unfold resK; simp only [this]; exact h
    · exact h.elim
theorem resK_store' {id off : Nat} {vs : List AV} : resK P (.store id off vs) st K = storeVC (cellsAt st id) off vs (fun o => K .undef (st.upd id o)) := by
  apply propext
  constructor
  · intro h
    obtain ⟨t, cs, h1, h2, h3⟩ := resK_store h
    have : cellsAt st id = some (t, cs) := by simp [cellsAt, h1]
    rw [this]; exact ⟨h2, h3⟩
  · intro h
    unfold storeVC at h
    split at h
    · rename_i t cs he
      have := cellsAt_some he
      unfold resK; simp only [this]; exact h
    · exact h.elim
theorem loadVC_some {t : TypeId} {cs : List AV} {off m : Nat} {ag : Bool} {K : AV → Prop} : loadVC (some (t, cs)) off m ag K = (off + m ≤ cs.length ∧ K (if ag then .agg ((cs.drop off).take m) else cs.getD off .undef)) := rfl
theorem storeVC_some {t : TypeId} {cs : List AV} {off : Nat} {vs : List AV} {K : AObj → Prop} : storeVC (some (t, cs)) off vs K = (off + vs.length ≤ cs.length ∧ K (.cells t (spliceL cs off vs))) := rfl
theorem cellsAt_upd_same (id : Nat) (t : TypeId) (cs : List AV) : cellsAt (st.upd id (.cells t cs)) id = some (t, cs) := by simp [cellsAt, St.upd]
theorem cellsAt_upd_ne {id i : Nat} (h : i ≠ id) (o : AObj) : cellsAt (st.upd id o) i = cellsAt st i := by simp [cellsAt, St.upd, h]
theorem upd_none_iff {id i : Nat} {o : AObj} : (st.upd id o) i = none ↔ i ≠ id ∧ st i = none := by
  simp only [St.upd]
  by_cases h : i = id <;> simp [h]
theorem le_upd {id : Nat} (h : st id = none) (o : AObj) : St.le st (st.upd id o) := by
  intro i x hi
  have : i ≠ id := fun e => by rw [e, h] at hi; cases hi
  rw [upd_ne _ this]; exact hi
theorem St.le.trans {a b c : St} (h : St.le a b) (k : St.le b c) : St.le a c := fun i o e => k i o (h i o e)
theorem resAV_one {t : Nat} : resAV P env st [.tmp t] = some (env t) := Eq.trans rfl rfl
theorem resAV_two {t u : Nat} : resAV P env st [.tmp t, .tmp u] = some (.tup [env t, env u]) := Eq.trans rfl rfl
theorem resAV_none : resAV P env st [] = some (.tup []) := Eq.trans rfl rfl

theorem retQ_ret {fn : Func} : retQ P fn K .ret env st = ∃ r, resAV P env st fn.results.toList = some r ∧ ∃ r' st', AV.sub r' r ∧ St.le st' st ∧ K r' st' := Eq.trans rfl rfl
theorem retQ_normal {fn : Func} : retQ P fn K .normal env st = ∃ r, resAV P env st fn.results.toList = some r ∧ ∃ r' st', AV.sub r' r ∧ St.le st' st ∧ K r' st' := Eq.trans rfl rfl
/-- The end of a function whose results are temporaries. -/
theorem ret_done {r : AV} {r' : AV} {st' : St} (hs : AV.sub r' r) (hl : St.le st' st) (hK : K r' st') : ∃ x, some r = some x ∧ ∃ r' st', AV.sub r' x ∧ St.le st' st ∧ K r' st' := ⟨r, rfl, r', st', hs, hl, hK⟩

end

/-! ### the same, with what follows as data: simp looks at what stands next alone -/
inductive Kont where
  | base
  | seq (b : Code) (k : Kont)
  | block (id : Nat) (k : Kont)
  | scope (k : Kont)
def QK (P : Program) (n : Nat) (Q : Exit → Env → St → Prop) : Kont → Exit → Env → St → Prop
  | .base => Q
  | .seq b k => thenQ (fun e s => vc P n b (QK P n Q k) e s) (QK P n Q k)
  | .block id k => blockQ id (QK P n Q k)
  | .scope k => scopeQ (QK P n Q k)
def vk (P : Program) (n : Nat) (c : Code) (k : Kont) (Q : Exit → Env → St → Prop) (env : Env) (st : St) : Prop := vc P n c (QK P n Q k) env st
def kk (P : Program) (n : Nat) (x : Exit) (k : Kont) (Q : Exit → Env → St → Prop) (env : Env) (st : St) : Prop := QK P n Q k x env st
def vo (P : Program) (n : Nat) (dsts : List (Option Nat)) (l : List Oper) (k : Kont) (Q : Exit → Env → St → Prop) (env : Env) (st : St) : Prop := vcs P n dsts l env st (QK P n Q k .normal)
def rk (P : Program) (n : Nat) (r : ORes) (d : Option Nat) (dsts : List (Option Nat)) (l : List Oper) (k : Kont) (Q : Exit → Env → St → Prop) (env : Env) (st : St) : Prop :=
  resK P r st (fun v st' => vcs P n dsts l (env.put d v) st' (QK P n Q k .normal))
def gk (P : Program) (n : Nat) (x : AV) (op : Op) (d : Option Nat) (dsts : List (Option Nat)) (l : List Oper) (k : Kont) (Q : Exit → Env → St → Prop) (env : Env) (st : St) : Prop :=
  testVC x (rk P n (evalOp P env.op op) d dsts l k Q env st) (vo P n dsts l k Q (env.put d (.tup [])) st)
def ck (P : Program) (n : Nat) (x : AV) (a b : Code) (k : Kont) (Q : Exit → Env → St → Prop) (env : Env) (st : St) : Prop := testVC x (vk P n a k Q env st) (vk P n b k Q env st)
def lk (P : Program) (n : Nat) (c : Code) (k : Kont) (Q : Exit → Env → St → Prop) (env : Env) (st : St) : Prop := dwp P n c (QK P n Q k) env st
def loadK (P : Program) (n : Nat) (c : Option (TypeId × List AV)) (off m : Nat) (ag : Bool) (d : Option Nat) (dsts : List (Option Nat)) (l : List Oper) (k : Kont) (Q : Exit → Env → St → Prop) (env : Env) (st : St) : Prop :=
  loadVC c off m ag (fun v => vo P n dsts l k Q (env.put d v) st)
def storeK (P : Program) (n : Nat) (c : Option (TypeId × List AV)) (id off : Nat) (vs : List AV) (d : Option Nat) (dsts : List (Option Nat)) (l : List Oper) (k : Kont) (Q : Exit → Env → St → Prop) (env : Env) (st : St) : Prop :=
  storeVC c off vs (fun o => vo P n dsts l k Q (env.put d .undef) (st.upd id o))
def callK (P : Program) (n : Nat) (f : FuncId) (args : List AV) (d : Option Nat) (dsts : List (Option Nat)) (l : List Oper) (k : Kont) (Q : Exit → Env → St → Prop) (env : Env) (st : St) : Prop :=
  dcall P f args st (fun v st' => vo P n dsts l k Q (env.put d v) st')
def appK (P : Program) (n : Nat) (e sz : Nat) (xs ys : List (List AV)) (o : Own) (d : Option Nat) (dsts : List (Option Nat)) (l : List Oper) (k : Kont) (Q : Exit → Env → St → Prop) (env : Env) (st : St) : Prop :=
  (∃ st0, Owns st0 e sz xs.length o st ∧ ∀ o' st', Owns st0 e sz (xs.length + ys.length) o' st' → vo P n dsts l k Q (env.put d (.list sz (xs ++ ys) o')) st') ∨
    (xs = [] ∧ o = .clip ∧ (ys = [] → vo P n dsts l k Q (env.put d (.list sz [] .clip)) st) ∧ (ys ≠ [] → ∀ id c, st id = none → ys.length ≤ c → c ≤ maxLen → vo P n dsts l k Q (env.put d (.rowp id 0 sz ys.length c)) (st.upd id (.cells e (ys.flatten ++ List.replicate ((c - ys.length) * sz) .undef)))))
/-- What other operations have become. -/
def otherK (P : Program) (n : Nat) (r : ORes) (d : Option Nat) (dsts : List (Option Nat)) (l : List Oper) (k : Kont) (Q : Exit → Env → St → Prop) (env : Env) (st : St) : Prop :=
  resK P r st (fun v st' => vo P n dsts l k Q (env.put d v) st')
def yieldK (P : Program) (n : Nat) (id : Nat) (args : List AV) (d : Option Nat) (dsts : List (Option Nat)) (l : List Oper) (k : Kont) (Q : Exit → Env → St → Prop) (env : Env) (st : St) : Prop :=
  dround P id args (st id) st (fun v st' => vo P n dsts l k Q (env.put d v) st')
def newK (P : Program) (n : Nat) (t : TypeId) (cs : List AV) (d : Option Nat) (dsts : List (Option Nat)) (l : List Oper) (k : Kont) (Q : Exit → Env → St → Prop) (env : Env) (st : St) : Prop :=
  ∀ id, st id = none → vo P n dsts l k Q (env.put d (.box id 0)) (st.upd id (.cells t cs))
/-- To begin. -/
theorem dwp_of_vk {c : Code} {Q : Exit → Env → St → Prop} {env : Env} {st : St} (hc : codeOk n c = true) (h : vk P n c .base Q env st) : dwp P n c Q env st := vc_sound c hc h

section
variable {Q : Exit → Env → St → Prop} {env : Env} {st : St} {k : Kont} {dsts : List (Option Nat)} {l : List Oper} {d : Option Nat}
@[simp] theorem vk_skip : vk P n .skip k Q env st = kk P n .normal k Q env st := Eq.trans rfl rfl
@[simp] theorem vk_label {i : Nat} : vk P n (.label i) k Q env st = kk P n .normal k Q env st := Eq.trans rfl rfl
@[simp] theorem vk_ret : vk P n .ret k Q env st = kk P n .ret k Q env st := Eq.trans rfl rfl
@[simp] theorem vk_exit {i : Nat} : vk P n (.exit i) k Q env st = kk P n (.exit i) k Q env st := Eq.trans rfl rfl
@[simp] theorem vk_goto {i : Nat} : vk P n (.goto i) k Q env st = kk P n (.goto i) k Q env st := Eq.trans rfl rfl
@[simp] theorem vk_seq {a b : Code} : vk P n (.seq a b) k Q env st = vk P n a (.seq b k) Q env st := Eq.trans rfl rfl
@[simp] theorem vk_block {i : Nat} {a : Code} : vk P n (.block i a) k Q env st = vk P n a (.block i k) Q env st := Eq.trans rfl rfl
@[simp] theorem vk_cond {x : Operand} {a b : Code} : vk P n (.cond x a b) k Q env st = ck P n (env.op x) a b k Q env st := Eq.trans rfl rfl
@[simp] theorem vk_region {i : Nat} {ops : List Oper} : vk P n (.region i ops.toArray false) k Q env st = vo P n (ops.map (·.dst)) ops k Q env st := Eq.trans rfl rfl
@[simp] theorem vk_draw {i : Nat} {ops : Array Oper} : vk P n (.region i ops true) k Q env st = lk P n (.region i ops true) k Q env st := Eq.trans rfl rfl
@[simp] theorem vk_loop {a : Code} : vk P n (.loop a) k Q env st = lk P n (.loop a) k Q env st := Eq.trans rfl rfl
@[simp] theorem vk_scope {a : Code} : vk P n (.scope a) k Q env st = vk P n a (.scope k) Q env st := Eq.trans rfl rfl
@[simp] theorem kk_scope_normal : kk P n .normal (.scope k) Q env st = kk P n .normal k Q env st := Eq.trans rfl rfl
@[simp] theorem kk_scope_ret : kk P n .ret (.scope k) Q env st = kk P n .ret k Q env st := Eq.trans rfl rfl
@[simp] theorem kk_scope_exit {i : Nat} : kk P n (.exit i) (.scope k) Q env st = kk P n (.exit i) k Q env st := Eq.trans rfl rfl
@[simp] theorem vk_rangeFunc {f : Operand} {ps : Array Tmp} {a b : Code} : vk P n (.rangeFunc f ps a b) k Q env st = lk P n (.rangeFunc f ps a b) k Q env st := Eq.trans rfl rfl
@[simp] theorem kk_base {x : Exit} : kk P n x .base Q env st = Q x env st := Eq.trans rfl rfl
@[simp] theorem kk_seq_normal {b : Code} : kk P n .normal (.seq b k) Q env st = vk P n b k Q env st := Eq.trans rfl rfl
@[simp] theorem kk_seq_ret {b : Code} : kk P n .ret (.seq b k) Q env st = kk P n .ret k Q env st := Eq.trans rfl rfl
@[simp] theorem kk_seq_exit {b : Code} {i : Nat} : kk P n (.exit i) (.seq b k) Q env st = kk P n (.exit i) k Q env st := Eq.trans rfl rfl
@[simp] theorem kk_seq_goto {b : Code} {i : Nat} : kk P n (.goto i) (.seq b k) Q env st = kk P n (.goto i) k Q env st := Eq.trans rfl rfl
@[simp] theorem kk_block_normal {i : Nat} : kk P n .normal (.block i k) Q env st = kk P n .normal k Q env st := Eq.trans rfl rfl
@[simp] theorem kk_block_ret {i : Nat} : kk P n .ret (.block i k) Q env st = kk P n .ret k Q env st := Eq.trans rfl rfl
@[simp] theorem kk_block_goto {i j : Nat} : kk P n (.goto j) (.block i k) Q env st = kk P n (.goto j) k Q env st := Eq.trans rfl rfl
@[simp] theorem kk_block_exit {i : Nat} : kk P n (.exit i) (.block i k) Q env st = kk P n .normal k Q env st := by
  show blockQ i (QK P n Q k) (.exit i) env st = _
  rw [blockQ_exit, if_pos rfl]; rfl
theorem kk_block_exit_ne {i j : Nat} (h : j ≠ i) : kk P n (.exit j) (.block i k) Q env st = kk P n (.exit j) k Q env st := by
  show blockQ i (QK P n Q k) (.exit j) env st = _
  rw [blockQ_exit, if_neg h]; rfl
@[simp] theorem kk_block_exit_if {i j : Nat} : kk P n (.exit j) (.block i k) Q env st = if j = i then kk P n .normal k Q env st else kk P n (.exit j) k Q env st := by
  by_cases h : j = i
  · subst h; rw [kk_block_exit, if_pos rfl]
  · rw [kk_block_exit_ne h, if_neg h]
@[simp] theorem vo_nil : vo P n dsts [] k Q env st = kk P n .normal k Q env st := Eq.trans rfl rfl
@[simp] theorem vo_plain {op : Op} {t : TypeId} {p : String} {af : Array Edge} : vo P n dsts (⟨d, op, t, p, af, none⟩ :: l) k Q env st = rk P n (evalOp P env.op op) d dsts l k Q env st := Eq.trans rfl rfl
@[simp] theorem vo_guard {op : Op} {t : TypeId} {p : String} {af : Array Edge} {j : Nat} {w : Bool} : vo P n dsts (⟨d, op, t, p, af, some (j, w)⟩ :: l) k Q env st = gk P n (guardAV w (env (dstAt dsts j))) op d dsts l k Q env st := Eq.trans rfl rfl
@[simp] theorem rk_val {v : AV} : rk P n (.val v) d dsts l k Q env st = vo P n dsts l k Q (env.put d v) st := Eq.trans rfl rfl
@[simp] theorem rk_lit {sz : Nat} {xs : List (List AV)} : rk P n (.lit sz xs) d dsts l k Q env st = vo P n dsts l k Q (env.put d (.list sz xs .clip)) st := Eq.trans rfl rfl
@[simp] theorem rk_load {id off m : Nat} {ag : Bool} : rk P n (.load id off m ag) d dsts l k Q env st = loadK P n (cellsAt st id) off m ag d dsts l k Q env st := resK_load'
@[simp] theorem rk_store {id off : Nat} {vs : List AV} : rk P n (.store id off vs) d dsts l k Q env st = storeK P n (cellsAt st id) id off vs d dsts l k Q env st := resK_store'
@[simp] theorem rk_new {t : TypeId} {cs : List AV} : rk P n (.new t cs) d dsts l k Q env st = newK P n t cs d dsts l k Q env st := Eq.trans rfl rfl
@[simp] theorem rk_yield {id : Nat} {as : List AV} : rk P n (.yield id as) d dsts l k Q env st = yieldK P n id as d dsts l k Q env st := Eq.trans rfl rfl
@[simp] theorem rk_call {f : FuncId} {as : List AV} : rk P n (.call f as) d dsts l k Q env st = callK P n f as d dsts l k Q env st := Eq.trans rfl rfl
@[simp] theorem rk_appr {e sz b id off m c : Nat} {ys : List (List AV)} : rk P n (.appr e sz b id off m c ys) d dsts l k Q env st = otherK P n (.appr e sz b id off m c ys) d dsts l k Q env st := Eq.trans rfl rfl
@[simp] theorem rk_mnew : rk P n .mnew d dsts l k Q env st = otherK P n .mnew d dsts l k Q env st := Eq.trans rfl rfl
@[simp] theorem rk_mget {id : Nat} {s : SK} {key z : AV} {ok : Bool} : rk P n (.mget id s key ok z) d dsts l k Q env st = otherK P n (.mget id s key ok z) d dsts l k Q env st := Eq.trans rfl rfl
@[simp] theorem rk_mset {id : Nat} {s : SK} {key z : AV} : rk P n (.mset id s key z) d dsts l k Q env st = otherK P n (.mset id s key z) d dsts l k Q env st := Eq.trans rfl rfl
@[simp] theorem rk_mdel {id : Nat} {s : SK} {key : AV} : rk P n (.mdel id s key) d dsts l k Q env st = otherK P n (.mdel id s key) d dsts l k Q env st := Eq.trans rfl rfl
@[simp] theorem rk_mlen {id : Nat} : rk P n (.mlen id) d dsts l k Q env st = otherK P n (.mlen id) d dsts l k Q env st := Eq.trans rfl rfl
@[simp] theorem rk_mrange {id : Nat} : rk P n (.mrange id) d dsts l k Q env st = otherK P n (.mrange id) d dsts l k Q env st := Eq.trans rfl rfl
@[simp] theorem rk_mnext {id : Nat} : rk P n (.mnext id) d dsts l k Q env st = otherK P n (.mnext id) d dsts l k Q env st := Eq.trans rfl rfl
@[simp] theorem rk_mentry {id : Nat} : rk P n (.mentry id) d dsts l k Q env st = otherK P n (.mentry id) d dsts l k Q env st := Eq.trans rfl rfl
@[simp] theorem rk_app {e sz b : Nat} {xs ys : List (List AV)} {o : Own} : rk P n (.app e sz b xs ys o) d dsts l k Q env st = appK P n e sz xs ys o d dsts l k Q env st := Eq.trans rfl rfl
@[simp] theorem gk_true {op : Op} : gk P n (.bool true) op d dsts l k Q env st = rk P n (evalOp P env.op op) d dsts l k Q env st := testVC_true
@[simp] theorem gk_false {op : Op} : gk P n (.bool false) op d dsts l k Q env st = vo P n dsts l k Q (env.put d (.tup [])) st := testVC_false
@[simp] theorem ck_true {a b : Code} : ck P n (.bool true) a b k Q env st = vk P n a k Q env st := testVC_true
@[simp] theorem ck_false {a b : Code} : ck P n (.bool false) a b k Q env st = vk P n b k Q env st := testVC_false
theorem ck_split {b : Bool} {c e : Code} (h1 : b = true → vk P n c k Q env st) (h2 : b = false → vk P n e k Q env st) : ck P n (.bool b) c e k Q env st := by
  cases b
  · rw [ck_false]; exact h2 rfl
  · rw [ck_true]; exact h1 rfl
theorem gk_split {b : Bool} {op : Op} (h1 : b = true → rk P n (evalOp P env.op op) d dsts l k Q env st) (h2 : b = false → vo P n dsts l k Q (env.put d (.tup [])) st) : gk P n (.bool b) op d dsts l k Q env st := by
  cases b
  · rw [gk_false]; exact h2 rfl
  · rw [gk_true]; exact h1 rfl
@[simp] theorem loadK_some {t : TypeId} {cs : List AV} {off m : Nat} {ag : Bool} : loadK P n (some (t, cs)) off m ag d dsts l k Q env st = (off + m ≤ cs.length ∧ vo P n dsts l k Q (env.put d (if ag then .agg ((cs.drop off).take m) else cs.getD off .undef)) st) := Eq.trans rfl rfl
@[simp] theorem storeK_some {t : TypeId} {cs : List AV} {id off : Nat} {vs : List AV} : storeK P n (some (t, cs)) id off vs d dsts l k Q env st = (off + vs.length ≤ cs.length ∧ vo P n dsts l k Q (env.put d .undef) (st.upd id (.cells t (spliceL cs off vs)))) := Eq.trans rfl rfl
theorem callK_pure {f : FuncId} {as : List AV} {r : AV} (h : PureC P f as r) (hk : vo P n dsts l k Q (env.put d r) st) : callK P n f as d dsts l k Q env st := h st _ hk
theorem newK_intro {t : TypeId} {cs : List AV} (h : ∀ id, st id = none → vo P n dsts l k Q (env.put d (.box id 0)) (st.upd id (.cells t cs))) : newK P n t cs d dsts l k Q env st := h
theorem appK_intro {e sz : Nat} {xs ys : List (List AV)} {o : Own} (st0 : St) (h : Owns st0 e sz xs.length o st) (hk : ∀ o' st', Owns st0 e sz (xs.length + ys.length) o' st' → vo P n dsts l k Q (env.put d (.list sz (xs ++ ys) o')) st') : appK P n e sz xs ys o d dsts l k Q env st := .inl ⟨st0, h, hk⟩
theorem otherK_intro {r : ORes} (h : resK P r st fun v st' => vo P n dsts l k Q (env.put d v) st') : otherK P n r d dsts l k Q env st := h
/-- A loop. -/
theorem lk_loop {α : Type} {c : Code} (I : α → Env) (S : α → St) (ok : α → Prop) (μ : α → Nat) (x0 : α) (hc : codeOk n c = true) (h0 : ok x0) (he : Env.sub (I x0) env) (hs : St.le (S x0) st)
    (round : ∀ x, ok x → ∀ R : Exit → Env → St → Prop, (∀ y env st, ok y → μ y < μ x → Env.sub (I y) env → St.le (S y) st → R .normal env st) → (∀ e env st, e ≠ .normal → kk P n e k Q env st → R e env st) → vk P n c .base R (I x) (S x)) : lk P n (.loop c) k Q env st := by
  refine dwp_loop I S ok μ x0 h0 he hs fun x hx K hK => vc_sound c hc ?_
  refine round x hx (thenQ K (QK P n Q k)) (fun y env st h1 h2 h3 h4 => hK y env st h1 h2 h3 h4) fun e env st hne h => ?_
  cases e <;> first | exact absurd rfl hne | exact h
theorem lk_draw {id : Nat} {ops : List Oper} (hm : P.follows .mixedOrders = true) (avs : List (List (TypeId × Operand))) (cr : List (Nat × AV)) (hc : drawOk ops avs = true)
    (h : vcT P n cr (aops (ops.map (·.dst)) ops avs) env st (kk P n .normal k Q)) : lk P n (.region id ops.toArray true) k Q env st :=
  dwp_region_draw hm avs cr hc h

/-! ### a region that draws its order -/
def tk (P : Program) (n : Nat) (cr : List (Nat × AV)) (r : ORes) (d : Option Nat) (l : List AOp) (K : Env → St → Prop) (env : Env) (st : St) : Prop :=
  resKP P (crGet cr d) r st (fun v st' => vcT P n cr l (env.put d v) st' K)
def tg (P : Program) (n : Nat) (cr : List (Nat × AV)) (x : AV) (av : List (TypeId × Operand)) (op : Op) (d : Option Nat) (l : List AOp) (K : Env → St → Prop) (env : Env) (st : St) : Prop :=
  testVC x ((∀ p ∈ av, ∀ q, addrOf op = some q → apartAt P env.op p q) ∧ tk P n cr (evalOp P env.op op) d l K env st) (vcT P n cr l (env.put d (.tup [])) st K)
section
variable {cr : List (Nat × AV)} {K : Env → St → Prop} {al : List AOp}
@[simp] theorem vcT_nil : vcT P n cr [] env st K = K env st := Eq.trans rfl rfl
@[simp] theorem vcT_plain {op : Op} {t : TypeId} {p : String} {af : Array Edge} {g : Option (Nat × Bool)} {av : List (TypeId × Operand)} :
    vcT P n cr (⟨⟨d, op, t, p, af, g⟩, none, av⟩ :: al) env st K = (dstOk n d = true ∧ (∀ p ∈ av, ∀ q, addrOf op = some q → apartAt P env.op p q) ∧ tk P n cr (evalOp P env.op op) d al K env st) := Eq.trans rfl rfl
@[simp] theorem vcT_guard {op : Op} {t : TypeId} {p : String} {af : Array Edge} {g : Option (Nat × Bool)} {av : List (TypeId × Operand)} {s : Nat} {w : Bool} :
    vcT P n cr (⟨⟨d, op, t, p, af, g⟩, some (s, w), av⟩ :: al) env st K = (dstOk n d = true ∧ tg P n cr (guardAV w (env s)) av op d al K env st) := by
  apply propext
  show (dstOk n d = true ∧ _) ↔ _
  refine and_congr_right fun _ => ?_
  simp only [guardV, tg, testVC]
  cases env s <;> simp [guardAV]
  rename_i b
  cases b <;> cases w <;> simp <;> first | exact Iff.rfl | exact fun _ => Iff.rfl
@[simp] theorem tg_true {av : List (TypeId × Operand)} {op : Op} : tg P n cr (.bool true) av op d al K env st = ((∀ p ∈ av, ∀ q, addrOf op = some q → apartAt P env.op p q) ∧ tk P n cr (evalOp P env.op op) d al K env st) := testVC_true
@[simp] theorem tg_false {av : List (TypeId × Operand)} {op : Op} : tg P n cr (.bool false) av op d al K env st = vcT P n cr al (env.put d (.tup [])) st K := testVC_false
theorem tg_split {b : Bool} {av : List (TypeId × Operand)} {op : Op} (h1 : b = true → (∀ p ∈ av, ∀ q, addrOf op = some q → apartAt P env.op p q) ∧ tk P n cr (evalOp P env.op op) d al K env st)
    (h2 : b = false → vcT P n cr al (env.put d (.tup [])) st K) : tg P n cr (.bool b) av op d al K env st := by
  cases b
  · rw [tg_false]; exact h2 rfl
  · rw [tg_true]; exact h1 rfl
@[simp] theorem tk_val {v : AV} : tk P n cr (.val v) d al K env st = vcT P n cr al (env.put d v) st K := Eq.trans rfl rfl
@[simp] theorem tk_lit {sz : Nat} {xs : List (List AV)} : tk P n cr (.lit sz xs) d al K env st = vcT P n cr al (env.put d (.list sz xs .clip)) st K := Eq.trans rfl rfl
@[simp] theorem tk_call {f : FuncId} {as : List AV} : tk P n cr (.call f as) d al K env st = (PureC P f as (crGet cr d) ∧ vcT P n cr al (env.put d (crGet cr d)) st K) := Eq.trans rfl rfl
def tkLoad (P : Program) (n : Nat) (cr : List (Nat × AV)) (c : Option (TypeId × List AV)) (off m : Nat) (ag : Bool) (d : Option Nat) (l : List AOp) (K : Env → St → Prop) (env : Env) (st : St) : Prop := loadVC c off m ag (fun v => vcT P n cr l (env.put d v) st K)
def tkStore (P : Program) (n : Nat) (cr : List (Nat × AV)) (c : Option (TypeId × List AV)) (id off : Nat) (vs : List AV) (d : Option Nat) (l : List AOp) (K : Env → St → Prop) (env : Env) (st : St) : Prop := storeVC c off vs (fun o => vcT P n cr l (env.put d .undef) (st.upd id o) K)
def tkNew (P : Program) (n : Nat) (cr : List (Nat × AV)) (t : TypeId) (cs : List AV) (d : Option Nat) (l : List AOp) (K : Env → St → Prop) (env : Env) (st : St) : Prop := ∀ id, st id = none → vcT P n cr l (env.put d (.box id 0)) (st.upd id (.cells t cs)) K
def tkApp (P : Program) (n : Nat) (cr : List (Nat × AV)) (e sz : Nat) (xs ys : List (List AV)) (o : Own) (d : Option Nat) (l : List AOp) (K : Env → St → Prop) (env : Env) (st : St) : Prop :=
  ∃ st0, Owns st0 e sz xs.length o st ∧ ∀ o' st', Owns st0 e sz (xs.length + ys.length) o' st' → vcT P n cr l (env.put d (.list sz (xs ++ ys) o')) st' K
@[simp] theorem tk_load {id off m : Nat} {ag : Bool} : tk P n cr (.load id off m ag) d al K env st = tkLoad P n cr (cellsAt st id) off m ag d al K env st := by
  show resK P (.load id off m ag) st (fun v st' => vcT P n cr al (env.put d v) st' K) = _
  exact resK_load'
@[simp] theorem tk_store {id off : Nat} {vs : List AV} : tk P n cr (.store id off vs) d al K env st = tkStore P n cr (cellsAt st id) id off vs d al K env st := by
  show resK P (.store id off vs) st (fun v st' => vcT P n cr al (env.put d v) st' K) = _
  exact resK_store'
@[simp] theorem tk_new {t : TypeId} {cs : List AV} : tk P n cr (.new t cs) d al K env st = tkNew P n cr t cs d al K env st := Eq.trans rfl rfl
def tkObs (P : Program) (n : Nat) (cr : List (Nat × AV)) (r : ORes) (d : Option Nat) (l : List AOp) (K : Env → St → Prop) (env : Env) (st : St) : Prop := ∃ v, obsV r st = some v ∧ vcT P n cr l (env.put d v) st K
@[simp] theorem tk_mget {id : Nat} {s : SK} {key z : AV} {ok : Bool} : tk P n cr (.mget id s key ok z) d al K env st = tkObs P n cr (.mget id s key ok z) d al K env st := propext (obs_iff rfl)
@[simp] theorem tk_mlen {id : Nat} : tk P n cr (.mlen id) d al K env st = tkObs P n cr (.mlen id) d al K env st := propext (obs_iff rfl)
@[simp] theorem tk_app {e sz b : Nat} {xs ys : List (List AV)} {o : Own} : tk P n cr (.app e sz b xs ys o) d al K env st = tkApp P n cr e sz xs ys o d al K env st := Eq.trans rfl rfl
@[simp] theorem tkLoad_some {t : TypeId} {cs : List AV} {off m : Nat} {ag : Bool} : tkLoad P n cr (some (t, cs)) off m ag d al K env st = (off + m ≤ cs.length ∧ vcT P n cr al (env.put d (if ag then .agg ((cs.drop off).take m) else cs.getD off .undef)) st K) := Eq.trans rfl rfl
@[simp] theorem tkStore_some {t : TypeId} {cs : List AV} {id off : Nat} {vs : List AV} : tkStore P n cr (some (t, cs)) id off vs d al K env st = (off + vs.length ≤ cs.length ∧ vcT P n cr al (env.put d .undef) (st.upd id (.cells t (spliceL cs off vs))) K) := Eq.trans rfl rfl
end
/-- The end of a body. -/
theorem fin {K : AV → St → Prop} {v : AV} (h : K v st) : ∃ r', AV.sub r' v ∧ ∃ x, St.le x st ∧ K r' x := ⟨v, .refl _, st, .refl _, h⟩
theorem fin' {K : AV → St → Prop} {v r : AV} {s : St} (hv : AV.sub r v) (hl : St.le s st) (h : K r s) : ∃ r', AV.sub r' v ∧ ∃ x, St.le x st ∧ K r' x := ⟨r, hv, s, hl, h⟩
end
end
attribute [simp] put_app put_none ofList_app ofList_nil args_app args_nil op_tmp op_const op_func guardAV_bool cellsAt_upd_same resAV_one resAV_two resAV_none retQ_ret retQ_normal zAV evalOp avBin dstAt TK.agg AV.sub.refl St.le.refl AV.cells? AV.one spliceL placeS fillAV hasAll chunks aops gslot crGet dstOk avEqs avEq1
instance : LawfulBEq ByteArray where
  eq_of_beq {a b} h := by
    have := beq_toListBytes a b
    rw [beq_bytes] at this
    rw [this] at h
    simpa using h
  rfl {a} := by
    rw [beq_toListBytes, beq_bytes]; simp
end Go.Sh
