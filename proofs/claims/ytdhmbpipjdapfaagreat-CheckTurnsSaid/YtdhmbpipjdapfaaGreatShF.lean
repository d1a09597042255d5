/- Shadow logic, part F: one operation, sound. -/
import Derived.Test.YtdhmbpipjdapfaaGreatShE
namespace Go.Sh
open Go.RowKit
section
variable {P : Program} {B n : Nat} {w0 w : World} {M : Mem} {st : St} {K : AV → St → Prop} {env : Env} {a : Act}

theorem run_bool_eq {t : TypeId} (hu : P.underlying t = some .bool) (p q : Operand) {a b : Bool} :
    ((do eqGuard .eql t p q (.bool a) (.bool b); binOp .eql t (.bool a) (.bool b)) : Sem Value).run P w = .ok (.bool (decide (a = b))) w := by
  have h : (Op.equal t (.bool a) (.bool b)).run P w = .ok (a == b) w := run_equalIn_bool' w 9999 t a b hu
  have e : binOp .eql t (.bool a) (.bool b) = (do pure (.bool (← Op.equal t (.bool a) (.bool b)))) := rfl
  rw [e]
  simp only [eqGuard_at_bool, Sem.run_bind, Sem.run_pure, Result.andThen_ok, h]
  cases a <;> cases b <;> rfl
theorem run_bool_neq {t : TypeId} (hu : P.underlying t = some .bool) (p q : Operand) {a b : Bool} :
    ((do eqGuard .neq t p q (.bool a) (.bool b); binOp .neq t (.bool a) (.bool b)) : Sem Value).run P w = .ok (.bool (!decide (a = b))) w := by
  have h : (Op.equal t (.bool a) (.bool b)).run P w = .ok (a == b) w := run_equalIn_bool' w 9999 t a b hu
  have e : binOp .neq t (.bool a) (.bool b) = (do pure (.bool (!(← Op.equal t (.bool a) (.bool b))))) := rfl
  rw [e]
  simp only [eqGuard_at_bool, Sem.run_bind, Sem.run_pure, Result.andThen_ok, h]
  cases a <;> cases b <;> rfl

theorem sound_bin {op : BinOp} {t : TypeId} {x y : AV} {u v : Value} (hx : RepV M x u) (hy : RepV M y v) (p q : Operand)
    (h : resK P (avBin P op t x y) st K) : ∃ r z, ((do eqGuard op t p q u v; binOp op t u v) : Sem Value).run P w = .ok r w ∧ RepV M z r ∧ K z st := by
  unfold avBin at h
  split at h
  · rename_i k a k' b
    cases hx; cases hy
    split at h
    · rename_i e; subst e
      cases op <;> simp only [resK] at h
      case add => exact ⟨_, _, by simp [eqGuard, binOp, Op.intArith] <;> rfl, .int _ _, h⟩
      case sub => exact ⟨_, _, by simp [eqGuard, binOp, Op.intArith] <;> rfl, .int _ _, h⟩
      case mul => exact ⟨_, _, by simp [eqGuard, binOp, Op.intArith] <;> rfl, .int _ _, h⟩
      case eql => exact ⟨_, _, by simp [eqGuard, binOp, Op.intCmp] <;> rfl, .bool _, h⟩
      case neq => exact ⟨_, _, by simp [eqGuard, binOp, Op.intCmp] <;> rfl, .bool _, h⟩
      case lss => exact ⟨_, _, by simp [eqGuard, binOp, Op.intCmp] <;> rfl, .bool _, h⟩
      case leq => exact ⟨_, _, by simp [eqGuard, binOp, Op.intCmp] <;> rfl, .bool _, h⟩
      case gtr => exact ⟨_, _, by simp [eqGuard, binOp, Op.intCmp] <;> rfl, .bool _, h⟩
      case geq => exact ⟨_, _, by simp [eqGuard, binOp, Op.intCmp] <;> rfl, .bool _, h⟩
      case rem =>
        by_cases hb : b = 0
        · simp only [hb, if_true] at h
        · simp only [hb, if_false] at h
          exact ⟨_, _, by simp [eqGuard, binOp, Op.intDiv, hb] <;> rfl, .int _ _, h⟩
      case quo =>
        by_cases hb : b = 0
        · simp only [hb, if_true] at h
        · simp only [hb, if_false] at h
          exact ⟨_, _, by simp [eqGuard, binOp, Op.intDiv, hb] <;> rfl, .int _ _, h⟩
    · exact h.elim
  · rename_i a b
    cases hx; cases hy
    cases op <;> simp only [resK] at h
    case eql =>
      cases hu : P.underlying t with
      | none => simp [hu] at h
      | some d => cases d <;> simp [hu] at h; exact ⟨_, _, run_bool_eq hu _ _, .bool _, h⟩
    case neq =>
      cases hu : P.underlying t with
      | none => simp [hu] at h
      | some d => cases d <;> simp [hu] at h; exact ⟨_, _, run_bool_neq hu _ _, .bool _, h⟩
  · rename_i s s'
    cases hx; cases hy
    cases op <;> simp only [resK] at h
    case add =>
      by_cases hb : s.size + s'.size ≤ 9223372036854775807
      · simp only [hb, if_true] at h
        exact ⟨_, _, by simp [eqGuard, binOp, Op.stringOp, show ¬ ((9223372036854775807 : Int) < (s.size : Int) + (s'.size : Int)) by omega] <;> rfl, .str _, h⟩
      · simp only [hb, if_false] at h
    case eql => exact ⟨_, _, by simp [eqGuard, binOp, Op.stringOp] <;> rfl, by rw [beq_bytes]; exact .bool _, h⟩
    case neq => exact ⟨_, _, by simp [eqGuard, binOp, Op.stringOp] <;> rfl, by rw [beq_bytes]; exact .bool _, h⟩
    case lss => exact ⟨_, _, by simp [eqGuard, binOp, Op.stringOp] <;> rfl, .bool _, h⟩
  · rename_i xs ys
    cases hx; cases hy
    rename_i cs hcs hcr ds hds hdr
    cases he : eqFlat P t with
    | none => simp [he, resK] at h
    | some ks =>
      simp only [he] at h
      unfold eqFlat at he
      cases hu : P.underlying t with
      | none => simp [hu] at he
      | some d =>
        cases d <;> simp [hu] at he
        rename_i fs
        obtain ⟨⟨hs, hg⟩, hk⟩ := he
        have hfu : P.underlying t = some (.struct (P.fieldsOf t)) := by simp [Program.fieldsOf, hu]
        have hff : P.fieldsOf t = fs := by simp [Program.fieldsOf, hu]
        cases hr : avEqs ks xs ys with
        | none => cases op <;> simp [hr, resK] at h
        | some r =>
          have hrun := run_eqFields (P := P) (w := w) (d := 9998) cs ds xs ys ⟨hcs, hcr⟩ ⟨hds, hdr⟩ fs.toList 0 r ks hk (by simpa using hr)
          have heq : (Op.equalIn 10000 t (.agg cs) (.agg ds)).run P w = .ok r w := by
            rw [show (10000 : Nat) = 9999 + 1 from rfl, run_equalIn_struct w 9999 t cs ds hfu hs, hff]
            exact hrun
          cases op <;> simp only [hr, resK] at h
          case eql => exact ⟨_, _, by simp [run_eqGuard_agg, hg, run_eql_struct, heq] <;> rfl, .bool _, h⟩
          case neq => exact ⟨_, _, by simp [run_eqGuard_agg, hg, run_neq_struct, heq] <;> rfl, .bool _, h⟩
  · exact h.elim
end
end Go.Sh
