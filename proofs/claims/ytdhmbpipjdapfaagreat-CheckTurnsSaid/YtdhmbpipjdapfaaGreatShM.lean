/- Shadow logic, part M: operations that may come in either order. -/
import Derived.Test.YtdhmbpipjdapfaaGreatShL
import Derived.Orders
namespace Go.Sh
open Go.RowKit

def PureC (P : Program) (f : FuncId) (args : List AV) (r : AV) : Prop := ∀ st (K : AV → St → Prop), K r st → dcall P f args st K

/-- As resK; a call must be pure. -/
def resKP (P : Program) (rv : AV) (r : ORes) (st : St) (K : AV → St → Prop) : Prop :=
  match r with
  | .call f args => PureC P f args rv ∧ K rv st
  | .yield _ _ => False
  | .app e sz _ xs ys o => ∃ st0, Owns st0 e sz xs.length o st ∧ ∀ o' st', Owns st0 e sz (xs.length + ys.length) o' st' → K (.list sz (xs ++ ys) o') st'
  | .appr _ _ _ _ _ _ _ _ => False
  | .mnew => False
  | .mset _ _ _ _ => False
  | .mdel _ _ _ => False
  | .mrange _ => False
  | .mnext _ => False
  | .mentry _ => False
  | r => resK P r st K
theorem resK_of_P {P : Program} {rv : AV} {r : ORes} {st : St} {K : AV → St → Prop} (h : resKP P rv r st K) : resK P r st K := by
  cases r <;> try exact h
  all_goals first | exact h.elim | skip
  · exact .inl h
  · exact h.1 st K h.2
def mapAt : Option AObj → Option (List MEnt)
  | some (.map es _) => some es
  | _ => none
/-- What a look into a map says. -/
def mgetV (k : SK) (key : AV) (ok : Bool) (z : AV) (es : List MEnt) : Option AV := match mfind k key es 0 with
  | some (some (_, v)) => some (if ok then .tup [v, .bool true] else v)
  | some none => some (if ok then .tup [z, .bool false] else z)
  | none => none
def obsV : ORes → St → Option AV
  | .mget id k key ok z, st => (mapAt (st id)).bind (mgetV k key ok z)
  | .mlen id, st => (mapAt (st id)).map fun es => .int .i64 es.length
  | _, _ => none
def isObs : ORes → Bool
  | .mget _ _ _ _ _ | .mlen _ => true
  | _ => false
theorem obs_iff {P : Program} {rv : AV} {r : ORes} {st : St} {K : AV → St → Prop} (hr : isObs r = true) : resKP P rv r st K ↔ ∃ v, obsV r st = some v ∧ K v st := by
  cases r <;> try (cases hr; done)
  · rename_i id k key ok z
    show resK P (.mget id k key ok z) st K ↔ _
    unfold resK obsV
    cases hs : st id with
    | none => simp only [hs]; simp [mapAt]
    | some o =>
      cases o
      case map es c =>
        simp only [hs, mapAt, Option.bind_some, mgetV]
        cases mfind k key es 0 with
        | none => simp
        | some r => cases r <;> simp
      all_goals (simp only [hs]; simp [mapAt])
  · rename_i id
    show resK P (.mlen id) st K ↔ _
    unfold resK obsV
    cases hs : st id with
    | none => simp only [hs]; simp [mapAt]
    | some o => cases o <;> simp only [hs] <;> simp [mapAt]

structure AOp where
  o : Oper
  g : Option (Nat × Bool)
  av : List (TypeId × Operand)

def szOf (P : Program) (t : TypeId) : Nat := match tiOf P t with | some i => i.size | none => 0
def apartAt (P : Program) (ρ : Operand → AV) (p q : TypeId × Operand) : Prop :=
  match ρ p.2, ρ q.2 with
  | .box i a, .box j b => i ≠ j ∨ a + szOf P p.1 ≤ b ∨ b + szOf P q.1 ≤ a
  | .eptr _, _ => True
  | _, .eptr _ => True
  | _, _ => False
def addrOf : Op → Option (TypeId × Operand)
  | .store t a _ => some (t, a)
  | .load t a => some (t, a)
  | _ => none
def dstOk (n : Nat) : Option Nat → Bool
  | none => true
  | some d => decide (d < n)
/-- What the calls of a region return, by where it goes. -/
def crGet : List (Nat × AV) → Option Nat → AV
  | [], _ => .undef
  | _, none => .undef
  | (d, v) :: r, some i => if i = d then v else crGet r (some i)
def guardV (env : Env) : Option (Nat × Bool) → Option Bool
  | none => some true
  | some (s, want) => match env s with
    | .bool b => some (b == want)
    | .tup _ => some false
    | _ => none
def opT (P : Program) (n : Nat) (cr : List (Nat × AV)) (x : AOp) (K : Env → St → Prop) (env : Env) (st : St) : Prop :=
  dstOk n x.o.dst = true ∧ match guardV env x.g with
  | some true => (∀ p ∈ x.av, ∀ q, addrOf x.o.op = some q → apartAt P env.op p q) ∧ resKP P (crGet cr x.o.dst) (evalOp P env.op x.o.op) st (fun v st' => K (env.put x.o.dst v) st')
  | some false => K (env.put x.o.dst (.tup [])) st
  | none => False
def vcT (P : Program) (n : Nat) (cr : List (Nat × AV)) : List AOp → Env → St → (Env → St → Prop) → Prop
  | [], env, st, K => K env st
  | x :: r, env, st, K => opT P n cr x (fun env st => vcT P n cr r env st K) env st

/-- What it looks at. -/
def looks (x : AOp) : List Nat :=
  (match x.g with | some (s, _) => [s] | none => []) ++ (x.o.op.operands.toList.filterMap fun | .tmp t => some t | _ => none) ++ x.av.filterMap fun | (_, .tmp t) => some t | _ => none
inductive Cls where | pure | new | load | store | app
def clsOf : Op → Cls
  | .alloc _ | .box _ _ => .new
  | .load _ _ => .load
  | .store _ _ _ => .store
  | .call ⟨.builtin .append, _, _⟩ => .app
  | _ => .pure
def opdEq : Operand → Operand → Bool
  | .tmp a, .tmp b => a == b
  | _, _ => false
def avHas (av : List (TypeId × Operand)) (p : TypeId × Operand) : Bool := av.any fun q => q.1 == p.1 && opdEq q.2 p.2
/-- x stands ahead of y in the text: may y come first? -/
def indep (x y : AOp) : Bool :=
  (match x.o.dst with | some d => !(looks y).contains d && (y.o.dst != some d) | none => true) &&
  (match y.o.dst with | some d => !(looks x).contains d | none => true) &&
  (match clsOf x.o.op, clsOf y.o.op with
    | .app, .app => false
    | .new, .app => false
    | .store, .store | .store, .load | .load, .store => match addrOf x.o.op with | some p => avHas y.av p | none => false
    | _, _ => true)
/-- What it must be apart from, as far as some ask it. -/
def cutAv (x : AOp) (s : List AOp) : AOp := { x with av := x.av.filter fun p => s.any fun z => match addrOf z.o.op with | some q => p.1 == q.1 && opdEq p.2 q.2 | none => false }
def Fresh (st : St) : Prop := ∃ N, ∀ id, N ≤ id → st id = none

section
variable {P : Program}
theorem evalOp_congr {ρ ρ' : Operand → AV} (op : Op) (h : ∀ x ∈ op.operands, ρ x = ρ' x) : evalOp P ρ op = evalOp P ρ' op := by
  cases op
  case move x => simp only [evalOp, h x (by simp [Op.operands])]
  case assign x => simp only [evalOp, h x (by simp [Op.operands])]
  case pick c a b => simp only [evalOp, h c (by simp [Op.operands]), h a (by simp [Op.operands]), h b (by simp [Op.operands])]
  case alloc => rfl
  case box t x => simp only [evalOp, h x (by simp [Op.operands])]
  case build t ps =>
    simp only [evalOp]
    have : ps.toList.map (fun x => (x.1, ρ x.2)) = ps.toList.map fun x => (x.1, ρ' x.2) :=
      List.map_congr_left fun p hp => by rw [h p.2 (by simp [Op.operands]; exact ⟨p.1, by simpa using hp⟩)]
    rw [this]
  case buildSlice t n ps =>
    simp only [evalOp]
    have : ps.toList.map (fun x => (x.1, ρ x.2)) = ps.toList.map fun x => (x.1, ρ' x.2) :=
      List.map_congr_left fun p hp => by rw [h p.2 (by simp [Op.operands]; exact ⟨p.1, by simpa using hp⟩)]
    rw [this]
  case load t x => simp only [evalOp, h x (by simp [Op.operands])]
  case store t x v => simp only [evalOp, h x (by simp [Op.operands]), h v (by simp [Op.operands])]
  case fieldAddr t x f => simp only [evalOp, h x (by simp [Op.operands])]
  case field t x f => simp only [evalOp, h x (by simp [Op.operands])]
  case indexAddr t x f => simp only [evalOp, h x (by simp [Op.operands]), h f (by simp [Op.operands])]
  case index t x f => simp only [evalOp, h x (by simp [Op.operands]), h f (by simp [Op.operands])]
  case binOp o t x y u => simp only [evalOp, h x (by simp [Op.operands]), h y (by simp [Op.operands])]
  case unOp o t x => simp only [evalOp, h x (by simp [Op.operands])]
  case extract x f => simp only [evalOp, h x (by simp [Op.operands])]
  case makeFunc fn first cap =>
    have : cap.toList.map ρ = cap.toList.map ρ' := List.map_congr_left fun p hp => h p (by simp [Op.operands]; right; simpa using hp)
    cases fn <;> simp only [evalOp, this]
  case call c =>
    obtain ⟨callee, args, tys⟩ := c
    have : args.toList.map ρ = args.toList.map ρ' := List.map_congr_left fun p hp => h p (by simp [Op.operands, Call.operands]; right; simpa using hp)
    cases callee with
    | value f => simp only [evalOp, this, h f (by simp [Op.operands, Call.operands])]
    | invoke r m => rfl
    | builtin b => cases b <;> simp only [evalOp, this]
  case slice t x lo hi mx =>
    rcases lo with _ | lo <;> rcases hi with _ | hi <;> rcases mx with _ | mx <;> simp [evalOp, h, Op.operands]
  case makeMap t r =>
    rcases r with _ | r
    · rfl
    · have := h r (by simp [Op.operands])
      simp only [evalOp, this]
  case lookup t x ix ok => simp only [evalOp, h x (by simp [Op.operands]), h ix (by simp [Op.operands])]
  case mapUpdate t m k v => simp only [evalOp, h m (by simp [Op.operands]), h k (by simp [Op.operands]), h v (by simp [Op.operands])]
  case insert t m k v => simp only [evalOp, h m (by simp [Op.operands]), h k (by simp [Op.operands]), h v (by simp [Op.operands])]
  case range t x => simp only [evalOp, h x (by simp [Op.operands])]
  case next x s => simp only [evalOp, h x (by simp [Op.operands])]
  case entry x => simp only [evalOp, h x (by simp [Op.operands])]
  all_goals rfl

theorem upd_upd (st : St) {i j : Nat} (h : i ≠ j) (x y : AObj) : (st.upd i x).upd j y = (st.upd j y).upd i x := by
  funext k
  simp only [St.upd]
  by_cases h1 : k = j <;> by_cases h2 : k = i <;> simp [h1, h2]
  · exact absurd (h2.symm.trans h1) h
  · intro e; exact absurd e.symm h
  · intro e; exact absurd e h
theorem upd_ne (st : St) {i j : Nat} (h : j ≠ i) (x : AObj) : (st.upd i x) j = st j := by simp [St.upd, h]
theorem upd_eq (st : St) (i : Nat) (x : AObj) : (st.upd i x) i = some x := by simp [St.upd]
theorem Fresh.upd {st : St} (h : Fresh st) (i : Nat) (x : AObj) : Fresh (st.upd i x) := by
  obtain ⟨N, hN⟩ := h
  exact ⟨max N (i + 1), fun id hid => by rw [upd_ne _ (by omega)]; exact hN id (by omega)⟩

theorem resKP_mono {rv : AV} {r : ORes} {st : St} {K K' : AV → St → Prop} (h : ∀ v st', K v st' → K' v st') (hr : resKP P rv r st K) : resKP P rv r st K' := by
  cases r with
  | val v => exact h _ _ hr
  | load id off n ag =>
    obtain ⟨t, cs, h1, h2, h3⟩ := resK_load (P := P) hr
    show resK P (.load id off n ag) st K'
    unfold resK; simp only [h1]; exact ⟨h2, h _ _ h3⟩
  | store id off vs =>
    obtain ⟨t, cs, h1, h2, h3⟩ := resK_store (P := P) hr
    show resK P (.store id off vs) st K'
    unfold resK; simp only [h1]; exact ⟨h2, h _ _ h3⟩
  | new t cs => exact fun id hid => h _ _ (hr id hid)
  | lit sz xs => exact h _ _ hr
  | app e sz by_ xs ys o => obtain ⟨st0, h1, h2⟩ := hr; exact ⟨st0, h1, fun o' st' ho => h _ _ (h2 o' st' ho)⟩
  | call f args => exact ⟨hr.1, h _ _ hr.2⟩
  | mget id k key ok z => obtain ⟨v, h1, h2⟩ := (obs_iff (P := P) (rv := rv) rfl).1 hr; exact (obs_iff rfl).2 ⟨v, h1, h _ _ h2⟩
  | mlen id => obtain ⟨v, h1, h2⟩ := (obs_iff (P := P) (rv := rv) rfl).1 hr; exact (obs_iff rfl).2 ⟨v, h1, h _ _ h2⟩
  | _ => exact hr.elim
theorem opT_mono {n : Nat} {cr : List (Nat × AV)} {x : AOp} {K K' : Env → St → Prop} (h : ∀ e s, K e s → K' e s) {env : Env} {st : St} (hr : opT P n cr x K env st) : opT P n cr x K' env st := by
  unfold opT at *
  refine ⟨hr.1, ?_⟩
  replace hr := hr.2
  cases hg : guardV env x.g with
  | none => simp only [hg] at hr
  | some b =>
    cases b
    · simp only [hg] at hr ⊢; exact h _ _ hr
    · simp only [hg] at hr ⊢; exact ⟨hr.1, resKP_mono (fun v s => h _ s) hr.2⟩
theorem vcT_mono {n : Nat} {cr : List (Nat × AV)} : ∀ (l : List AOp) {K K' : Env → St → Prop} (_ : ∀ e s, K e s → K' e s) {env : Env} {st : St}, vcT P n cr l env st K → vcT P n cr l env st K'
  | [], _, _, h, _, _, hr => h _ _ hr
  | _ :: l, _, _, h, _, _, hr => opT_mono (fun _ _ hk => vcT_mono l h hk) hr
end
end Go.Sh
