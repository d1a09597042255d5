/- Shadow logic, part E: the operations that only compute. -/
import Derived.Test.YtdhmbpipjdapfaaGreatShD
namespace Go.Sh
open Go.RowKit

def okFn (P : Program) (f : FuncId) : Prop := ∃ fn, P.funcs[f]? = some fn ∧ (fn.name == "runtime.NumGoroutine") = false ∧ fn.body.isNone = false
def dcall (P : Program) (f : FuncId) (args : List AV) (st : St) (K : AV → St → Prop) : Prop :=
  okFn P f ∧ ∀ (B : Nat) (w0 : World) (M : Mem) (w : World) (vals : Array Value), Inv B w0 M st w → RepL M args vals →
    Calls P f vals w fun e w' => ∃ x M' v st', e = .returned x ∧ M.le M' ∧ Inv B w0 M' st' w' ∧ RepV M' v x ∧ K v st'

/-- What holds behind. -/
def Post (B : Nat) (w0 : World) (M : Mem) (n : Nat) (K : Env → St → Prop) (a : Act) (w : World) : Prop :=
  ∃ M' env st, M.lem M' ∧ Inv B w0 M' st w ∧ RepE M' n env a ∧ K env st
def fen (ro : Option Nat) : Fence := { Fence.wide with round := ro }
def dwp (P : Program) (n : Nat) (c : Code) (Q : Exit → Env → St → Prop) (env : Env) (st : St) : Prop :=
  ∀ (B : Nat) (w0 : World) (M : Mem) (a : Act) (w : World), Inv B w0 M st w → RepE M n env a → c.wpIn (fen M.ro) 0 P (fun e a' w' => Post B w0 M n (Q e) a' w') a w
def putAll : Env → List (Nat × AV) → Env
  | e, [] => e
  | e, (d, v) :: r => putAll (e.put (some d) v) r
/-- How a round ends. -/
def roundQ (id n : Nat) (env0 : Env) (ps : Array Tmp) (assign body : Code) (K : AV → St → Prop) : Exit → Env → St → Prop
  | .normal, _, st => K (.bool true) (st.upd id (.loop n env0 ps assign body none))
  | .ret, _, st => K (.bool false) (st.upd id (.loop n env0 ps assign body (some .ret)))
  | .exit i, _, st => K (.bool false) (st.upd id (.loop n env0 ps assign body (some (.exit i))))
  | .goto l, _, st => K (.bool false) (st.upd id (.loop n env0 ps assign body (some (.goto l))))
  | _, _, _ => False
def onlyQ (K : Env → St → Prop) : Exit → Env → St → Prop
  | .normal => K
  | _ => fun _ _ => False
/-- A round. -/
def dround (P : Program) (id : Nat) (args : List AV) (o : Option AObj) (st : St) (K : AV → St → Prop) : Prop := match o with
  | some (.loop n env0 ps assign body none) => args.length = ps.size ∧ (ps.toList.all fun p => decide (p < n)) = true ∧
      dwp P n assign (onlyQ fun e1 s1 => dwp P n body (roundQ id n env0 ps assign body K) e1 s1) (putAll env0 (ps.toList.zip args)) (st.del id)
  | _ => False

/-- Who may append: over st0, the objects beside. -/
def Owns (st0 : St) (e : TypeId) (sz n : Nat) : Own → St → Prop
  | .no, _ => False
  | .clip, st => st = st0
  | .op id, st => st0 id = none ∧ st = st0.upd id (.spare e sz n)

def Out (P : Program) (B : Nat) (w0 : World) (M : Mem) (st : St) (w : World) (K : AV → St → Prop) : Result Next → Prop
  | .ok (.value x) w' => ∃ M' v st', M.le M' ∧ Inv B w0 M' st' w' ∧ RepV M' v x ∧ K v st'
  | .ok .skip w' => ∃ M' st', M.le M' ∧ Inv B w0 M' st' w' ∧ K .undef st'
  | .ok (.enter f vals) w' => w' = w ∧ ∃ args, RepL M args vals ∧ dcall P f args st K
  | .ok (.round l f tmps assign body) w' => w' = w ∧ RoundIn Fence.wide 0 P l f tmps assign body w fun e w' => ∃ x M' v st', e = .returned x ∧ M.le M' ∧ Inv B w0 M' st' w' ∧ RepV M' v x ∧ K v st'
  | _ => False

def resK (P : Program) (r : ORes) (st : St) (K : AV → St → Prop) : Prop :=
  match r with
  | .val v => K v st
  | .load id off n ag => match st id with
    | some (.cells _ cs) => off + n ≤ cs.length ∧ K (if ag then .agg ((cs.drop off).take n) else cs.getD off .undef) st
    | _ => False
  | .store id off vs => match st id with
    | some (.cells t cs) => off + vs.length ≤ cs.length ∧ K .undef (st.upd id (.cells t (spliceL cs off vs)))
    | _ => False
  | .new t cs => ∀ id, st id = none → K (.box id 0) (st.upd id (.cells t cs))
  | .lit sz xs => K (.list sz xs .clip) st
  | .app e sz _ xs ys o => (∃ st0, Owns st0 e sz xs.length o st ∧ ∀ o' st', Owns st0 e sz (xs.length + ys.length) o' st' → K (.list sz (xs ++ ys) o') st') ∨
      (xs = [] ∧ o = .clip ∧ (ys = [] → K (.list sz [] .clip) st) ∧ (ys ≠ [] → ∀ id c, st id = none → ys.length ≤ c → c ≤ maxLen → K (.rowp id 0 sz ys.length c) (st.upd id (.cells e (ys.flatten ++ List.replicate ((c - ys.length) * sz) .undef)))))
  | .appr e sz _ id off n c ys => if c = 0 then n = 0 ∧ (ys = [] → K (.rowp id off sz 0 0) st) ∧ (ys ≠ [] → ∀ id' c', st id' = none → ys.length ≤ c' → c' ≤ maxLen → K (.rowp id' 0 sz ys.length c') (st.upd id' (.cells e (ys.flatten ++ List.replicate ((c' - ys.length) * sz) .undef)))) else
    match st id with
    | some (.cells t cs) => off + c * sz ≤ cs.length ∧ n ≤ c ∧ c ≤ maxLen ∧ (n + ys.length ≤ c → K (.rowp id off sz (n + ys.length) c) (st.upd id (.cells t (spliceL cs (off + n * sz) ys.flatten)))) ∧
      (c < n + ys.length → ∀ id' c', st id' = none → n + ys.length ≤ c' → c' ≤ maxLen → K (.rowp id' 0 sz (n + ys.length) c') (st.upd id' (.cells e ((cs.drop off).take (n * sz) ++ ys.flatten ++ List.replicate ((c' - (n + ys.length)) * sz) .undef))))
    | _ => False
  | .call f args => dcall P f args st K
  | .yield id args => dround P id args (st id) st K
  | .mnew => ∀ id, st id = none → K (.map id) (st.upd id (.map [] 0))
  | .mget id k key ok z => match st id with
    | some (.map es _) => match mfind k key es 0 with
      | some (some (_, v)) => K (if ok then .tup [v, .bool true] else v) st
      | some none => K (if ok then .tup [z, .bool false] else z) st
      | none => False
    | _ => False
  | .mset id k key v => match st id with
    | some (.map es clock) => match mfind k key es 0 with
      | some (some (i, _)) => K .undef (st.upd id (.map (msetL key v es i) clock))
      | some none => K .undef (st.upd id (.map (es ++ [⟨key, v, clock⟩]) (clock + 1)))
      | none => False
    | _ => False
  | .mdel id k key => match st id with
    | some (.map es clock) => match mfind k key es 0 with
      | some (some (i, _)) => K (.tup []) (st.upd id (.map (es.eraseIdx i) clock))
      | some none => K (.tup []) st
      | none => False
    | _ => False
  | .mlen id => match st id with
    | some (.map es _) => K (.int .i64 es.length) st
    | _ => False
  | .mrange id => match st id with
    | some (.map _ clock) => ∀ id', st id' = none → K (.box id' 0) (st.upd id' (.iter (some id) clock [] clock))
    | _ => False
  | .mnext id => match st id with
    | some (.iter (some m) since seen last) => match st m with
      | some (.map es clock) => (∀ e ∈ es, e.born < since) ∧ since ≤ last ∧ (leftA es seen = [] → K (.tup [.bool false]) st) ∧ ∀ e ∈ leftA es seen, K (.tup [.bool true, e.key, e.val]) (st.upd id (.iter (some m) since (seen ++ [e.born]) clock))
      | _ => False
    | _ => False
  | .mentry id => match st id with
    | some (.iter (some m) _ seen last) => match st m with
      | some (.map es clock) => clock = last ∧ (es.map (·.born)).Nodup ∧ ∃ e seen', e ∈ es ∧ seen = seen' ++ [e.born] ∧ K (.tup [e.key, e.val]) st
      | _ => False
    | _ => False
  | .stuck => False

theorem resK_val {P : Program} {st : St} {K : AV → St → Prop} (v : AV) : resK P (.val v) st K = K v st := rfl
theorem resK_stuck {P : Program} {st : St} {K : AV → St → Prop} : resK P .stuck st K = False := rfl
theorem resK_load {P : Program} {st : St} {K : AV → St → Prop} {id off n : Nat} {ag : Bool} (h : resK P (.load id off n ag) st K) :
    ∃ t cs, st id = some (.cells t cs) ∧ off + n ≤ cs.length ∧ K (if ag then .agg ((cs.drop off).take n) else cs.getD off .undef) st := by
  unfold resK at h
  split at h
  all_goals first | (rename_i e; cases e; done) | skip
  rename_i e
  injection e with e1 e2 e3 e4
  subst e1 e2 e3 e4
  split at h
  · rename_i t cs hs; exact ⟨t, cs, hs, h⟩
  · exact h.elim
theorem resK_store {P : Program} {st : St} {K : AV → St → Prop} {id off : Nat} {vs : List AV} (h : resK P (.store id off vs) st K) :
    ∃ t cs, st id = some (.cells t cs) ∧ off + vs.length ≤ cs.length ∧ K .undef (st.upd id (.cells t (spliceL cs off vs))) := by
  unfold resK at h
  split at h
  all_goals first | (rename_i e; cases e; done) | skip
  rename_i e
  injection e with e1 e2 e3
  subst e1 e2 e3
  split at h
  · rename_i t cs hs; exact ⟨t, cs, hs, h⟩
  · exact h.elim
section
variable {P : Program} {B : Nat} {w0 w : World} {M : Mem} {st : St} {K : AV → St → Prop}

theorem out_val (hI : Inv B w0 M st w) {s : Sem Value} {x : Value} {v : AV} (hs : s.run P w = .ok x w) (hv : RepV M v x) (hK : K v st) :
    Out P B w0 M st w K ((do pure (.value (← s)) : Sem Next).run P w) := by
  simp only [Sem.run_bind, hs, Result.andThen_ok, Sem.run_pure]
  exact ⟨M, v, st, .refl M, hI, hv, hK⟩

theorem beq_bytes (a b : ByteArray) : (a.toList == b.toList) = decide (a = b) := by
  rw [ByteArray.toList_eq, ByteArray.toList_eq, Bool.eq_iff_iff]
  simp only [beq_iff_eq, decide_eq_true_eq]
  constructor
  · intro h
    obtain ⟨⟨a⟩⟩ := a
    obtain ⟨⟨b⟩⟩ := b
    simp at h
    rw [h]
  · intro h; rw [h]

theorem run_isAgg_scalar {t : TypeId} {k : SK} (hk : scalarK P t = some k) : (isAgg t).run P w = .ok false w := by
  unfold scalarK at hk
  unfold isAgg
  cases hu : P.underlying t with
  | none => simp [hu] at hk
  | some du => rw [Sem.run_bind, run_underlying hu]; cases du <;> simp [hu] at hk <;> rfl
theorem run_equal_scalar {d : Nat} {t : TypeId} {k : SK} (hk : scalarK P t = some k) {a b : AV} {x y : Value} (ha : RepV M a x) (hb : RepV M b y) {r : Bool} (e : avEq1 k a b = some r) :
    (Op.equalIn (d + 1) t x y).run P w = .ok r w := by
  unfold scalarK at hk
  cases hu : P.underlying t with
  | none => simp [hu] at hk
  | some du =>
    cases du <;> simp [hu] at hk <;> subst hk <;> cases ha <;> cases hb <;> simp [avEq1] at e
    · subst e; simp [Op.equalIn, run_underlying hu]; rfl
    · obtain ⟨rfl, rfl⟩ := e; simp [Op.equalIn, run_underlying hu]; rfl
    · subst e; simp [Op.equalIn, run_underlying hu]; rw [beq_toListBytes, beq_bytes]
theorem run_eqFields {d : Nat} (cs ds : Array Value) (xs ys : List AV) (hx : RepL M xs cs) (hy : RepL M ys ds) : ∀ (fs : List Field) (j : Nat) (r : Bool) (ks : List SK),
    kindsOf P fs j = some ks → avEqs ks (xs.drop j) (ys.drop j) = some r → (Op.eqFields (d + 1) cs ds fs).run P w = .ok r w := by
  intro fs
  induction fs with
  | nil =>
    intro j r ks hk hr
    simp only [kindsOf, Option.some.injEq] at hk
    subst hk
    cases hd : xs.drop j with
    | nil => cases hd' : ys.drop j with
      | nil => rw [hd, hd'] at hr; simp [avEqs] at hr; subst hr; rfl
      | cons y ys => rw [hd, hd'] at hr; simp [avEqs] at hr
    | cons x xs => rw [hd] at hr; simp [avEqs] at hr
  | cons f fs ih =>
    intro j r ks ha hr
    unfold kindsOf at ha
    split at ha
    · cases ha
    · rename_i hc
      have hn : f.name ≠ "_" := fun h => hc (.inl h)
      have ho : f.offset = j := Classical.byContradiction fun h => hc (.inr h)
      cases hk : scalarK P f.type with
      | none => simp [hk] at ha
      | some k =>
        cases hks : kindsOf P fs (j + 1) with
        | none => simp [hk, hks] at ha
        | some ks' =>
          simp [hk, hks] at ha
          subst ha
          cases hdx : xs.drop j with
          | nil => rw [hdx] at hr; simp [avEqs] at hr
          | cons x xs' =>
            cases hdy : ys.drop j with
            | nil => rw [hdx, hdy] at hr; simp [avEqs] at hr
            | cons y ys' =>
              rw [hdx, hdy] at hr
              have gx : xs[j]? = some x := by have := congrArg (·[0]?) hdx; simpa using this
              have gy : ys[j]? = some y := by have := congrArg (·[0]?) hdy; simpa using this
              have tx : xs.drop (j + 1) = xs' := by rw [← List.drop_drop, hdx]; rfl
              have ty : ys.drop (j + 1) = ys' := by rw [← List.drop_drop, hdy]; rfl
              simp only [avEqs] at hr
              cases e1 : avEq1 k x y with
              | none => simp [e1] at hr
              | some b =>
                cases e2 : avEqs ks' xs' ys' with
                | none => simp [e1, e2] at hr
                | some b' =>
                  simp [e1, e2] at hr
                  subst hr
                  have hx1 := hx.2 j
                  have hy1 := hy.2 j
                  rw [List.getD_eq_getElem?_getD, gx, Option.getD_some, Array.getD_eq_getD_getElem?] at hx1
                  rw [List.getD_eq_getElem?_getD, gy, Option.getD_some, Array.getD_eq_getD_getElem?] at hy1
                  have hcj : j < cs.size := by rw [hx.1]; exact (List.getElem?_eq_some_iff.1 gx).1
                  have hdj : j < ds.size := by rw [hy.1]; exact (List.getElem?_eq_some_iff.1 gy).1
                  rw [Array.getElem?_eq_getElem hcj, Option.getD_some] at hx1
                  rw [Array.getElem?_eq_getElem hdj, Option.getD_some] at hy1
                  have hagg := run_isAgg_scalar (w := w) hk
                  have hp1 : (part f.type cs f.offset).run P w = .ok cs[j] w := by
                    simp [part, hagg, ho, hcj]
                  have hp2 : (part f.type ds f.offset).run P w = .ok ds[j] w := by
                    simp [part, hagg, ho, hdj]
                  have heq := run_equal_scalar (w := w) (d := d) hk hx1 hy1 e1
                  simp only [Op.eqFields, hn, ne_eq, not_false_eq_true, if_true, Sem.run_bind, hp1, hp2, heq, Result.andThen_ok, Sem.run_ite]
                  rw [ih (j + 1) b' ks' hks (by rw [tx, ty]; exact e2)]
                  cases b <;> rfl
end
end Go.Sh
