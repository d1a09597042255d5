/- Shadow logic, part O: a region that draws its order. -/
import Derived.Test.YtdhmbpipjdapfaaGreatShN
namespace Go.Sh
open Go.RowKit
section
variable {P : Program}

theorem resKP_and {rv : AV} {r : ORes} {st : St} {A : Prop} {K : AV → St → Prop} (hf : Fresh st) (h : resKP P rv r st fun v s => A ∧ K v s) : A ∧ resKP P rv r st K :=
  ⟨resKP_const hf (resKP_mono (fun _ _ h => h.1) h), resKP_mono (fun _ _ h => h.2) h⟩

theorem put_ne (env : Env) (d : Option Nat) (v : AV) (s : Nat) (h : d ≠ some s) : (env.put d v) s = env s := by
  cases d with
  | none => rfl
  | some d => simp only [Env.put]; rw [if_neg (fun e => h (by rw [e]))]
theorem put_comm (env : Env) (d d' : Option Nat) (v v' : AV) (h : ∀ i, d = some i → d' ≠ some i) : (env.put d v).put d' v' = (env.put d' v').put d v := by
  cases d with
  | none => rfl
  | some d =>
    cases d' with
    | none => rfl
    | some d' =>
      have : d ≠ d' := fun e => h d rfl (by rw [e])
      funext k
      simp only [Env.put]
      by_cases c1 : k = d <;> by_cases c2 : k = d' <;> simp [c1, c2]
      · exact absurd (c1.symm.trans c2) this
      · intro e; exact absurd e this
      · intro e; exact absurd e.symm this
theorem op_put (env : Env) (d : Option Nat) (v : AV) (x : Operand) (h : ∀ t, x = .tmp t → d ≠ some t) : (env.put d v).op x = env.op x := by
  cases x with
  | tmp t => exact put_ne env d v t (h t rfl)
  | const c => rfl
  | global g => rfl
  | func f => rfl

theorem looks_opd {x : AOp} {t : Nat} (h : Operand.tmp t ∈ x.o.op.operands) : t ∈ looks x := by
  unfold looks
  simp only [List.mem_append, List.mem_filterMap]
  exact .inl (.inr ⟨.tmp t, by simpa using h, rfl⟩)
theorem looks_guard {x : AOp} {s : Nat} {w : Bool} (h : x.g = some (s, w)) : s ∈ looks x := by
  unfold looks
  simp [h]
theorem looks_av {x : AOp} {ty : TypeId} {t : Nat} (h : (ty, Operand.tmp t) ∈ x.av) : t ∈ looks x := by
  unfold looks
  simp only [List.mem_append, List.mem_filterMap]
  exact .inr ⟨_, h, rfl⟩
theorem guardV_put {env : Env} {d : Option Nat} {v : AV} {x : AOp} (h : ∀ t, d = some t → t ∉ looks x) : guardV (env.put d v) x.g = guardV env x.g := by
  cases hg : x.g with
  | none => rfl
  | some p =>
    obtain ⟨s, w⟩ := p
    simp only [guardV]
    rw [put_ne _ _ _ _ (fun e => h s e (looks_guard hg))]
theorem evalOp_put {env : Env} {d : Option Nat} {v : AV} {x : AOp} (h : ∀ t, d = some t → t ∉ looks x) : evalOp P (env.put d v).op x.o.op = evalOp P env.op x.o.op :=
  evalOp_congr _ fun y hy => op_put _ _ _ _ fun t e => by subst e; exact fun e => h t e (looks_opd hy)
theorem addrOf_mem {op : Op} {q : TypeId × Operand} (h : addrOf op = some q) : q.2 ∈ op.operands := by
  cases op <;> simp [addrOf] at h <;> subst h <;> simp [Op.operands]
theorem apart_put {env : Env} {d : Option Nat} {v : AV} {x : AOp} (h : ∀ t, d = some t → t ∉ looks x) :
    (∀ p ∈ x.av, ∀ q, addrOf x.o.op = some q → apartAt P (env.put d v).op p q) ↔ ∀ p ∈ x.av, ∀ q, addrOf x.o.op = some q → apartAt P env.op p q := by
  have key : ∀ p ∈ x.av, ∀ q, addrOf x.o.op = some q → (apartAt P (env.put d v).op p q ↔ apartAt P env.op p q) := by
    intro p hp q hq
    have e1 : (env.put d v).op p.2 = env.op p.2 := op_put _ _ _ _ fun t e he => h t he (looks_av (ty := p.1) (by rw [← e]; exact hp))
    have e2 : (env.put d v).op q.2 = env.op q.2 := op_put _ _ _ _ fun t e he => h t he (looks_opd (by rw [← e]; exact addrOf_mem hq))
    unfold apartAt
    rw [e1, e2]
  exact ⟨fun hh p hp q hq => (key p hp q hq).1 (hh p hp q hq), fun hh p hp q hq => (key p hp q hq).2 (hh p hp q hq)⟩

/-! ### what outcomes a class has -/
theorem eval_load_shape {ρ : Operand → AV} {t : TypeId} {x : Operand} : evalOp P ρ (.load t x) = .stuck ∨ (∃ v, evalOp P ρ (.load t x) = .val v) ∨ ∃ i a ag, ρ x = .box i a ∧ evalOp P ρ (.load t x) = .load i a (szOf P t) ag ∧ (ag = false → szOf P t = 1) := by
  simp only [evalOp, szOf]
  cases ht : tiOf P t with
  | none => exact .inl rfl
  | some ti =>
    simp only
    cases hx : ρ x <;> try exact .inl rfl
    case eptr cs =>
      cases hag : ti.k.agg
      · simp only [Bool.false_eq_true, if_false]
        split
        · cases cs with
          | nil => exact .inl rfl
          | cons c cs => exact .inr (.inl ⟨_, rfl⟩)
        · exact .inl rfl
      · simp only [if_true]
        split
        · exact .inr (.inl ⟨_, rfl⟩)
        · exact .inl rfl
    case box i a =>
      simp only
      by_cases hc : ti.k.agg = false → ti.size = 1
      · rw [if_pos hc]; exact .inr (.inr ⟨i, a, _, rfl, rfl, hc⟩)
      · rw [if_neg hc]; exact .inl rfl
theorem eval_store_shape {ρ : Operand → AV} {t : TypeId} {x v : Operand} : evalOp P ρ (.store t x v) = .stuck ∨ ∃ i a cs, ρ x = .box i a ∧ evalOp P ρ (.store t x v) = .store i a cs ∧ cs.length = szOf P t := by
  simp only [evalOp, szOf]
  cases ht : tiOf P t with
  | none => exact .inl rfl
  | some ti =>
    simp only
    cases hx : ρ x <;> (try exact .inl rfl)
    cases hc : (ρ v).cells? with
    | none => exact .inl rfl
    | some cs =>
      by_cases h : cs.length = ti.size ∧ cs.all AV.one = true
      · exact .inr ⟨_, _, _, rfl, if_pos h, h.1⟩
      · exact .inl (if_neg h)
theorem eval_new_shape {ρ : Operand → AV} {op : Op} (h : clsOf op = .new) : evalOp P ρ op = .stuck ∨ ∃ t cs, evalOp P ρ op = .new t cs := by
  cases op <;> simp [clsOf] at h
  case alloc t =>
    simp only [evalOp]
    cases tiOf P t with
    | none => exact .inl rfl
    | some i => exact .inr ⟨_, _, rfl⟩
  case box t x =>
    simp only [evalOp]
    cases (ρ x).cells? with
    | none => exact .inl rfl
    | some i => exact .inr ⟨_, _, rfl⟩
  case call c =>
    exfalso
    revert h
    split <;> first | (rename_i e; cases e; done) | simp

def isPureR : ORes → Prop
  | .val _ | .lit _ _ | .call _ _ | .yield _ _ | .stuck | .mnew | .mget _ _ _ _ _ | .mset _ _ _ _ | .mdel _ _ _ | .mlen _ | .mrange _ | .mnext _ | .mentry _ => True
  | _ => False
theorem avBin_pure (op : BinOp) (t : TypeId) (x y : AV) : isPureR (avBin P op t x y) := by
  unfold avBin
  repeat' (first | trivial | split)
set_option maxHeartbeats 1000000 in
theorem eval_pure_shape {ρ : Operand → AV} {op : Op} (h : clsOf op = .pure) : isPureR (evalOp P ρ op) := by
  cases op <;> try (first | (simp [clsOf] at h; done) | trivial)
  case binOp => exact avBin_pure _ _ _ _
  case call c =>
    obtain ⟨callee, args, tys⟩ := c
    cases callee with
    | invoke => trivial
    | value f => simp only [evalOp]; repeat' (first | trivial | split)
    | builtin b =>
      cases b <;> try (first | trivial | (simp [clsOf] at h; done))
      all_goals (simp only [evalOp]; repeat' (first | trivial | split))
  all_goals (simp only [evalOp]; repeat' (first | trivial | split))
theorem eval_app_shape {ρ : Operand → AV} {op : Op} (h : clsOf op = .app) : evalOp P ρ op = .stuck ∨ (∃ e sz b xs ys o, evalOp P ρ op = .app e sz b xs ys o) ∨ ∃ e sz b id off n c ys, evalOp P ρ op = .appr e sz b id off n c ys := by
  cases op <;> try (simp [clsOf] at h; done)
  case call c =>
    obtain ⟨callee, args, tys⟩ := c
    cases callee with
    | invoke => simp [clsOf] at h
    | value f => simp [clsOf] at h
    | builtin b =>
      cases b <;> try (simp [clsOf] at h; done)
      simp only [evalOp]
      repeat' (first | exact .inl rfl | exact .inr (.inl ⟨_, _, _, _, _, _, rfl⟩) | exact .inr (.inr ⟨_, _, _, _, _, _, _, _, rfl⟩) | split)

def effR (P : Program) (env : Env) (g : Bool) (op : Op) : ORes := if g then evalOp P env.op op else .val (.tup [])
theorem opT_iff {n : Nat} {cr : List (Nat × AV)} {x : AOp} {K : Env → St → Prop} {env : Env} {st : St} : opT P n cr x K env st ↔
    dstOk n x.o.dst = true ∧ ∃ g, guardV env x.g = some g ∧ (g = true → ∀ p ∈ x.av, ∀ q, addrOf x.o.op = some q → apartAt P env.op p q) ∧
      resKP P (crGet cr x.o.dst) (effR P env g x.o.op) st (fun v st' => K (env.put x.o.dst v) st') := by
  unfold opT
  refine and_congr_right fun _ => ?_
  cases hg : guardV env x.g with
  | none => simp
  | some b =>
    cases b
    · simp only [Option.some.injEq, exists_eq_left']
      simp [effR, resKP, resK]
    · simp only [Option.some.injEq, exists_eq_left']
      simp [effR]
theorem effR_put {env : Env} {d : Option Nat} {v : AV} {x : AOp} (h : ∀ t, d = some t → t ∉ looks x) (g : Bool) : effR P (env.put d v) g x.o.op = effR P env g x.o.op := by
  unfold effR
  rw [evalOp_put h]

theorem indep_spec {x y : AOp} (h : indep x y = true) : (∀ t, x.o.dst = some t → t ∉ looks y) ∧ (∀ t, y.o.dst = some t → t ∉ looks x) ∧ (∀ t, x.o.dst = some t → y.o.dst ≠ some t) := by
  unfold indep at h
  simp only [Bool.and_eq_true] at h
  obtain ⟨⟨h1, h2⟩, _⟩ := h
  refine ⟨fun t ht => ?_, fun t ht => ?_, fun t ht => ?_⟩
  · simp only [ht, Bool.and_eq_true, Bool.not_eq_true', List.contains_eq_mem, decide_eq_false_iff_not] at h1
    exact h1.1
  · simp only [ht, Bool.not_eq_true', List.contains_eq_mem, decide_eq_false_iff_not] at h2
    exact h2
  · simp only [ht, Bool.and_eq_true, bne_iff_ne, ne_eq] at h1
    exact h1.2
theorem avHas_mem {av : List (TypeId × Operand)} {p : TypeId × Operand} (h : avHas av p = true) : p ∈ av := by
  unfold avHas at h
  obtain ⟨q, hq, he⟩ := List.any_eq_true.1 h
  simp only [Bool.and_eq_true, beq_iff_eq] at he
  obtain ⟨e1, e2⟩ := he
  obtain ⟨q1, q2⟩ := q
  obtain ⟨p1, p2⟩ := p
  dsimp only at e1 e2
  subst e1
  cases q2 <;> cases p2 <;> simp [opdEq] at e2
  subst e2
  exact hq
def rcls : ORes → Cls
  | .load .. => .load
  | .store .. => .store
  | .new .. => .new
  | .app .. => .app
  | .appr .. => .app
  | _ => .pure
theorem rcls_of {ρ : Operand → AV} (op : Op) : rcls (evalOp P ρ op) = .pure ∨ rcls (evalOp P ρ op) = clsOf op := by
  cases hc : clsOf op with
  | pure =>
    left
    have := eval_pure_shape (P := P) (ρ := ρ) hc
    generalize evalOp P ρ op = r at this
    cases r <;> first | rfl | exact this.elim
  | app => rcases eval_app_shape (P := P) (ρ := ρ) hc with e | ⟨e, sz, b, xs, ys, o, e1⟩ | ⟨e, sz, b, id, off, n, c, ys, e1⟩ <;> simp [*, rcls]
  | new => rcases eval_new_shape (P := P) (ρ := ρ) hc with e | ⟨t, cs, e⟩ <;> simp [e, rcls]
  | load =>
    cases op <;> try (simp [clsOf] at hc; done)
    · rename_i t x
      rcases eval_load_shape (P := P) (ρ := ρ) (t := t) (x := x) with e | ⟨v, e⟩ | ⟨i, a, ag, _, e, _⟩ <;> simp [e, rcls]
    · exfalso; revert hc; unfold clsOf; split <;> first | (rename_i e; cases e; done) | simp
  | store =>
    cases op <;> try (simp [clsOf] at hc; done)
    · rename_i t x v
      rcases eval_store_shape (P := P) (ρ := ρ) (t := t) (x := x) (v := v) with e | ⟨i, a, cs, _, e, _⟩ <;> simp [e, rcls]
    · exfalso; revert hc; unfold clsOf; split <;> first | (rename_i e; cases e; done) | simp
theorem cls_load {op : Op} (h : clsOf op = .load) : ∃ t x, op = .load t x := by
  cases op <;> try (simp [clsOf] at h; done)
  · exact ⟨_, _, rfl⟩
  · exfalso; revert h; unfold clsOf; split <;> first | (rename_i e; cases e; done) | simp
theorem cls_store {op : Op} (h : clsOf op = .store) : ∃ t x v, op = .store t x v := by
  cases op <;> try (simp [clsOf] at h; done)
  · exact ⟨_, _, _, rfl⟩
  · exfalso; revert h; unfold clsOf; split <;> first | (rename_i e; cases e; done) | simp
def clsClash : Cls → Cls → Bool
  | .app, .app | .new, .app | .store, .store | .store, .load | .load, .store => true
  | _, _ => false
theorem swappable_cls {r1 r2 : ORes} (h : clsClash (rcls r1) (rcls r2) = false) : swappable r1 r2 := by
  cases r1 <;> cases r2 <;> first | trivial | (simp [rcls, clsClash] at h)
theorem apart_rng {ρ : Operand → AV} {t t' : TypeId} {x x' : Operand} {i a j b : Nat} (h : apartAt P ρ (t, x) (t', x')) (h1 : ρ x = .box i a) (h2 : ρ x' = .box j b) : i ≠ j ∨ rngApart a (szOf P t) b (szOf P t') := by
  unfold apartAt at h
  simp only [h1, h2] at h
  exact h
theorem eff_swappable {x y : AOp} (h : indep x y = true) (env : Env) (gx gy : Bool) (hav : gy = true → ∀ p ∈ y.av, ∀ q, addrOf y.o.op = some q → apartAt P env.op p q) :
    swappable (effR P env gx x.o.op) (effR P env gy y.o.op) := by
  cases gx with
  | false => exact swappable_cls (by simp [effR, rcls, clsClash])
  | true =>
    cases gy with
    | false => exact swappable_cls (by simp only [effR, if_true, if_false, Bool.false_eq_true]; cases rcls (evalOp P env.op x.o.op) <;> rfl)
    | true =>
      simp only [effR, if_true]
      unfold indep at h
      simp only [Bool.and_eq_true] at h
      replace h := h.2
      have hav := hav rfl
      rcases rcls_of (P := P) (ρ := env.op) x.o.op with ex | ex
      · exact swappable_cls (by rw [ex]; cases rcls (evalOp P env.op y.o.op) <;> rfl)
      rcases rcls_of (P := P) (ρ := env.op) y.o.op with ey | ey
      · exact swappable_cls (by rw [ey]; cases rcls (evalOp P env.op x.o.op) <;> rfl)
      by_cases hcl : clsClash (clsOf x.o.op) (clsOf y.o.op) = false
      · exact swappable_cls (by rw [ex, ey]; exact hcl)
      · cases hcx : clsOf x.o.op <;> cases hcy : clsOf y.o.op <;> simp only [hcx, hcy, clsClash, not_true_eq_false, reduceCtorEq, Bool.true_eq_false, not_false_eq_true] at hcl h <;> try (cases h; done)
        · -- load, store
          obtain ⟨t, p, hx⟩ := cls_load hcx
          obtain ⟨t', p', v', hy⟩ := cls_store hcy
          rw [hx] at h ⊢
          rw [hy] at hav ⊢
          simp only [addrOf] at h hav
          have hap := hav _ (avHas_mem h) _ rfl
          rcases eval_load_shape (P := P) (ρ := env.op) (t := t) (x := p) with e | ⟨v, e⟩ | ⟨i, a, ag, e1, e, _⟩
          · rw [e]; exact swappable_cls (by cases evalOp P env.op (.store t' p' v') <;> rfl)
          · rw [e]; exact swappable_cls (by cases evalOp P env.op (.store t' p' v') <;> rfl)
          · rcases eval_store_shape (P := P) (ρ := env.op) (t := t') (x := p') (v := v') with f | ⟨j, b, cs, f1, f, f2⟩
            · rw [e, f]; trivial
            · rw [e, f]
              show _ ∨ _
              rw [f2]; exact apart_rng hap e1 f1
        · obtain ⟨t, p, v, hx⟩ := cls_store hcx
          obtain ⟨t', p', hy⟩ := cls_load hcy
          rw [hx] at h ⊢
          rw [hy] at hav ⊢
          simp only [addrOf] at h hav
          have hap := hav _ (avHas_mem h) _ rfl
          rcases eval_store_shape (P := P) (ρ := env.op) (t := t) (x := p) (v := v) with f | ⟨j, b, cs, f1, f, f2⟩
          · rw [f]; exact swappable_cls (by cases evalOp P env.op (.load t' p') <;> rfl)
          · rcases eval_load_shape (P := P) (ρ := env.op) (t := t') (x := p') with e | ⟨v, e⟩ | ⟨i, a, ag, e1, e, _⟩
            · rw [e, f]; trivial
            · rw [e, f]; trivial
            · rw [e, f]
              show _ ∨ _
              rw [f2]; exact apart_rng hap f1 e1
        · obtain ⟨t, p, v, hx⟩ := cls_store hcx
          obtain ⟨t', p', v', hy⟩ := cls_store hcy
          rw [hx] at h ⊢
          rw [hy] at hav ⊢
          simp only [addrOf] at h hav
          have hap := hav _ (avHas_mem h) _ rfl
          rcases eval_store_shape (P := P) (ρ := env.op) (t := t) (x := p) (v := v) with f | ⟨j, b, cs, f1, f, f2⟩
          · rw [f]; exact swappable_cls (by cases evalOp P env.op (.store t' p' v') <;> rfl)
          · rcases eval_store_shape (P := P) (ρ := env.op) (t := t') (x := p') (v := v') with g | ⟨j', b', cs', g1, g, g2⟩
            · rw [f, g]; trivial
            · rw [f, g]
              show _ ∨ _
              rw [f2, g2]; exact apart_rng hap f1 g1
theorem eff_load_pos {env : Env} {g : Bool} {x : AOp} {i a n : Nat} (h : effR P env g x.o.op = .load i a n false) : 0 < n := by
  cases g with
  | false => simp [effR] at h
  | true =>
    simp only [effR, if_true] at h
    have hc : clsOf x.o.op = .load := by
      rcases rcls_of (P := P) (ρ := env.op) x.o.op with e | e
      · rw [h] at e; cases e
      · rw [h] at e; exact e.symm
    obtain ⟨t, p, hx⟩ := cls_load hc
    rw [hx] at h
    rcases eval_load_shape (P := P) (ρ := env.op) (t := t) (x := p) with e | ⟨v, e⟩ | ⟨i, a, ag, e1, e, e2⟩ <;> rw [e] at h
    · cases h
    · cases h
    · injection h with h1 h2 h3 h4
      rw [← h3, e2 h4]; omega

theorem opT_swap {n : Nat} {cr : List (Nat × AV)} {x y : AOp} {K : Env → St → Prop} {env : Env} {st : St} (hi : indep x y = true) (hf : Fresh st)
    (h : opT P n cr x (fun e s => opT P n cr y K e s) env st) : opT P n cr y (fun e s => opT P n cr x K e s) env st := by
  obtain ⟨i1, i2, i3⟩ := indep_spec hi
  obtain ⟨hdx, gx, hgx, hax, hrx⟩ := opT_iff.1 h
  -- the second one, told over the first environment
  have hin : resKP P (crGet cr x.o.dst) (effR P env gx x.o.op) st fun v1 s1 => (dstOk n y.o.dst = true ∧ ∃ gy, guardV env y.g = some gy ∧ (gy = true → ∀ p ∈ y.av, ∀ q, addrOf y.o.op = some q → apartAt P env.op p q)) ∧
      ∀ gy, guardV env y.g = some gy → resKP P (crGet cr y.o.dst) (effR P env gy y.o.op) s1 fun v2 s2 => K ((env.put y.o.dst v2).put x.o.dst v1) s2 := by
    refine resKP_mono (fun v1 s1 hh => ?_) hrx
    obtain ⟨k1, gy, k2, k3, k4⟩ := opT_iff.1 hh
    rw [guardV_put i1] at k2
    refine ⟨⟨k1, gy, k2, fun e => (apart_put i1).1 (k3 e)⟩, fun gy' e => ?_⟩
    rw [k2] at e
    injection e with e
    subst e
    rw [effR_put i1] at k4
    refine resKP_mono (fun v2 s2 hk => ?_) k4
    rw [put_comm _ _ _ _ _ i3] at hk
    exact hk
  obtain ⟨⟨hdy, gy, hgy, hay⟩, hin⟩ := resKP_and hf hin
  have hin2 := resKP_mono (fun v1 s1 hh => hh gy hgy) hin
  have hsw := resKP_swap (u := crGet cr x.o.dst) (v := crGet cr y.o.dst) (eff_swappable hi env gx gy hay)
    (fun i a n hh => by rcases hh with hh | hh <;> exact eff_load_pos hh) hf hin2
  refine opT_iff.2 ⟨hdy, gy, hgy, hay, resKP_mono (fun v2 s1 hh => ?_) hsw⟩
  refine opT_iff.2 ⟨hdx, gx, by rw [guardV_put i2]; exact hgx, fun e => (apart_put i2).2 (hax e), ?_⟩
  rw [effR_put i2]
  exact hh
end
end Go.Sh
