/- Shadow logic, part R: code and calls. -/
import Derived.Test.YtdhmbpipjdapfaaGreatShQ
import Derived.Deep.LoopGhost
import Derived.Sort.LoopGhostIn
namespace Go.Sh
open Go.RowKit

/-- A value that says less. -/
def AV.sub (u v : AV) : Prop := ∀ M x, RepV M v x → RepV M u x
theorem AV.sub.refl (v : AV) : AV.sub v v := fun _ _ h => h
theorem AV.sub.of_eq {u v : AV} (h : u = v) : AV.sub u v := h ▸ .refl _
theorem AV.sub.undef (v : AV) : AV.sub .undef v := fun _ x _ => .undef x
theorem AV.sub.trans {u v x : AV} (h : AV.sub u v) (k : AV.sub v x) : AV.sub u x := fun M y hy => h M y (k M y hy)
theorem AV.sub.list (sz : Nat) (xs : List (List AV)) (o : Own) : AV.sub (.list sz xs .no) (.list sz xs o) := by
  intro M x h
  cases h with
  | nils _ _ ho => exact .nils _ _ (fun _ e => by cases e)
  | list _ _ _ a cap g hF hg hl hc hm hoo => exact .list _ _ _ a cap g hF hg hl hc hm trivial
theorem AV.sub.list_of_eq {sz : Nat} {xs ys : List (List AV)} {o : Own} (h : xs = ys) : AV.sub (.list sz xs .no) (.list sz ys o) := h ▸ .list sz xs o
theorem AV.sub.nil (sz sz' : Nat) (o o' : Own) (ho : o = .no ∨ (o = .clip ∧ o' = .clip)) : AV.sub (.list sz [] o) (.list sz' [] o') := by
  intro M x h
  generalize hxs : ([] : List (List AV)) = xs at h
  cases h with
  | nils _ _ ho' => exact .nils _ _ (fun _ e => by rcases ho with h | h <;> simp_all)
  | list _ _ _ a cap g hF hg hl hc hm hoo =>
    subst hxs
    refine .list sz [] o a cap g (fun i j hi => by simp at hi) hg (fun i hi => by simp at hi) hc hm ?_
    rcases ho with rfl | ⟨rfl, rfl⟩
    · trivial
    · exact hoo
theorem AV.sub.agg {cs ds : List AV} (hl : cs.length = ds.length) (h : ∀ j, AV.sub (cs.getD j .undef) (ds.getD j .undef)) : AV.sub (.agg cs) (.agg ds) := by
  intro M x hx
  cases hx with
  | agg _ vs hs hr => exact .agg _ _ (hs.trans hl.symm) fun j => h j M _ (hr j)
theorem AV.sub.tup {cs ds : List AV} (hl : cs.length = ds.length) (h : ∀ j, AV.sub (cs.getD j .undef) (ds.getD j .undef)) : AV.sub (.tup cs) (.tup ds) := by
  intro M x hx
  cases hx with
  | tup _ vs hs hr => exact .tup _ _ (hs.trans hl.symm) fun j => h j M _ (hr j)
theorem sub_nil (j : Nat) : AV.sub (([] : List AV).getD j .undef) (([] : List AV).getD j .undef) := .refl _
theorem sub_cons {u v : AV} {us vs : List AV} (h : AV.sub u v) (k : ∀ j, AV.sub (us.getD j .undef) (vs.getD j .undef)) : ∀ j, AV.sub ((u :: us).getD j .undef) ((v :: vs).getD j .undef)
  | 0 => h
  | j + 1 => k j
def Env.sub (e e' : Env) : Prop := ∀ d, AV.sub (e d) (e' d)
theorem Env.sub.refl (e : Env) : Env.sub e e := fun _ => .refl _
theorem RepE.sub {M : Mem} {n : Nat} {e e' : Env} {a : Act} (k : RepE M n e' a) (h : Env.sub e e') : RepE M n e a := ⟨k.size, k.defers, fun d => h d M _ (k.slot d)⟩
theorem Env.sub_ofList {l : List (Nat × AV)} {e : Env} (h : ∀ p ∈ l, AV.sub p.2 (e p.1)) : Env.sub (Env.ofList l) e := by
  intro d
  induction l with
  | nil => exact .undef _
  | cons p l ih =>
    obtain ⟨k, v⟩ := p
    simp only [Env.ofList]
    by_cases hd : d = k
    · rw [if_pos hd, hd]; exact h (k, v) (by simp)
    · rw [if_neg hd]; exact ih fun q hq => h q (by simp [hq])

section
variable {P : Program} {n : Nat} {Q : Exit → Env → St → Prop} {env : Env} {st : St}

theorem Post.mono {B : Nat} {w0 : World} {M : Mem} {n : Nat} {K K' : Env → St → Prop} {a : Act} {w : World} (h : ∀ e s, K e s → K' e s) (hp : Post B w0 M n K a w) : Post B w0 M n K' a w :=
  let ⟨M', e, s, h1, h2, h3, h4⟩ := hp
  ⟨M', e, s, h1, h2, h3, h _ _ h4⟩
theorem Post.le {B : Nat} {w0 : World} {M M1 : Mem} {n : Nat} {K : Env → St → Prop} {a : Act} {w : World} (hM : M.lem M1) (hp : Post B w0 M1 n K a w) : Post B w0 M n K a w :=
  let ⟨M', e, s, h1, h2, h3, h4⟩ := hp
  ⟨M', e, s, hM.trans h1, h2, h3, h4⟩
theorem dwp_mono {c : Code} {Q' : Exit → Env → St → Prop} (h : ∀ e env st, Q e env st → Q' e env st) (hc : dwp P n c Q env st) : dwp P n c Q' env st :=
  fun B w0 M a w hI hE => wpIn_mono (hc B w0 M a w hI hE) fun _ _ _ hp => hp.mono fun _ _ => h _ _ _
theorem dwp_weaken {c : Code} {env' : Env} {st' : St} (h : Env.sub env' env) (k : St.le st' st) (hc : dwp P n c Q env' st') : dwp P n c Q env st :=
  fun B w0 M a w hI hE => hc B w0 M a w (hI.weaken k) (hE.sub h)
theorem dwp_skip (h : Q .normal env st) : dwp P n .skip Q env st := fun _ _ M _ _ hI hE => wpIn_skip ⟨M, env, st, .refl M, hI, hE, h⟩
theorem dwp_ret (h : Q .ret env st) : dwp P n .ret Q env st := fun _ _ M _ _ hI hE => wpIn_ret ⟨M, env, st, .refl M, hI, hE, h⟩
theorem dwp_exit {id : Nat} (h : Q (.exit id) env st) : dwp P n (.exit id) Q env st := fun _ _ M _ _ hI hE => wpIn_exit ⟨M, env, st, .refl M, hI, hE, h⟩
theorem dwp_goto {l : Nat} (h : Q (.goto l) env st) : dwp P n (.goto l) Q env st := fun _ _ M _ _ hI hE => wpIn_goto ⟨M, env, st, .refl M, hI, hE, h⟩
theorem dwp_label {l : Nat} (h : Q .normal env st) : dwp P n (.label l) Q env st := fun _ _ M _ _ hI hE => wpIn_label ⟨M, env, st, .refl M, hI, hE, h⟩
/-- The exits of a sequence's first part. -/
def thenQ (K : Env → St → Prop) (Q : Exit → Env → St → Prop) : Exit → Env → St → Prop
  | .normal => K
  | e => Q e
theorem dwp_seq {c d : Code} (h : dwp P n c (thenQ (fun env st => dwp P n d Q env st) Q) env st) : dwp P n (.seq c d) Q env st := by
  intro B w0 M a w hI hE
  refine wpIn_seq (wpIn_mono (h B w0 M a w hI hE) fun e a' w' hp => ?_)
  cases e with
  | normal =>
    obtain ⟨M', e', s', h1, h2, h3, h4⟩ := hp
    rw [← h1.ro]
    exact wpIn_mono (h4 B w0 M' a' w' h2 h3) fun _ _ _ hp => hp.le h1
  | _ => exact hp
theorem dwp_seq_k {c d : Code} (h : ∀ K : Env → St → Prop, (∀ env st, dwp P n d Q env st → K env st) → dwp P n c (thenQ K Q) env st) : dwp P n (.seq c d) Q env st :=
  dwp_seq (h _ fun _ _ h => h)
theorem dwp_cond {x : Operand} {c d : Code} {t : Bool} (hx : env.op x = .bool t) (h1 : t = true → dwp P n c Q env st) (h2 : t = false → dwp P n d Q env st) : dwp P n (.cond x c d) Q env st := by
  intro B w0 M a w hI hE
  have hr := hE.op x
  rw [hx] at hr
  have hv : a.eval x = .bool t := by generalize a.eval x = z at hr; cases hr; rfl
  refine wpIn_cond hv ?_
  cases t with
  | true => exact h1 rfl B w0 M a w hI hE
  | false => exact h2 rfl B w0 M a w hI hE
def blockQ (id : Nat) (Q : Exit → Env → St → Prop) : Exit → Env → St → Prop
  | .exit i => if i = id then Q .normal else Q (.exit i)
  | e => Q e
theorem dwp_block {id : Nat} {c : Code} (h : dwp P n c (blockQ id Q) env st) : dwp P n (.block id c) Q env st := by
  intro B w0 M a w hI hE
  refine wpIn_block (wpIn_mono (h B w0 M a w hI hE) fun e a' w' hp => ?_)
  cases e with
  | exit i =>
    simp only [Exit.inBlock]
    simp only [blockQ] at hp
    by_cases hi : i = id
    · rw [if_pos hi] at hp ⊢; exact hp
    · rw [if_neg hi] at hp ⊢; exact hp
  | _ => exact hp
theorem dwp_region {id : Nat} {ops : Array Oper} (h : vcOps P n (ops.toList.map (·.dst)) ops.toList env st (Q .normal)) : dwp P n (.region id ops false) Q env st := by
  intro B w0 M a w hI hE
  refine wpIn_region_list ?_
  have := vcOps_sound (Q := fun e a' w' => Post B w0 M n (Q e) a' w') ops.toList hI hE (fun _ _ hp => hp) h
  simpa using this
theorem dwp_region_draw {id : Nat} {ops : Array Oper} (hm : P.follows .mixedOrders = true) (avs : List (List (TypeId × Operand))) (cr : List (Nat × AV)) (hc : drawOk ops.toList avs = true)
    (h : vcT P n cr (aops (ops.toList.map (·.dst)) ops.toList avs) env st (Q .normal)) : dwp P n (.region id ops true) Q env st := by
  intro B w0 M a w hI hE
  refine wpIn_region_any hm ?_
  have hrem : rem (Array.replicate ops.size false) (aops (ops.toList.map (·.dst)) ops.toList avs) 0 = aops (ops.toList.map (·.dst)) ops.toList avs := by
    have hl := aops_length (ops.toList.map (·.dst)) ops.toList avs
    have key : ∀ (xs : List AOp) (k : Nat), k + xs.length ≤ ops.size → rem (Array.replicate ops.size false) xs k = xs := by
      intro xs
      induction xs with
      | nil => intro k _; rfl
      | cons x xs ih =>
        intro k hk
        simp only [List.length_cons] at hk
        have : (Array.replicate ops.size false).getD k true = false := by
          rw [Array.getD_eq_getD_getElem?]
          simp [show k < ops.size by omega]
        simp only [rem, this, Bool.false_eq_true, if_false]
        rw [ih (k + 1) (by omega)]
    exact key _ 0 (by simp at hl; omega)
  have hw : ({ w with drawn := w.drawn + 1 } : World) = w.drew := rfl
  rw [hw]
  have := draw_sound (Q := fun e a' w' => Post B w0 M n (Q e) a' w') (K := Q .normal) hc ops.size (Array.replicate ops.size false) (by simp)
    (fun i hi => by
      rw [Array.getD_eq_getD_getElem?] at hi
      by_cases h : i < ops.size
      · simpa using h
      · simp [h] at hi) (by
        have := List.length_filter_le (fun i => !(Array.replicate ops.size false).getD i true) (List.range ops.toList.length)
        simpa using this) hI.drew hE (fun _ _ hp => hp) (cr := cr) (by rw [hrem]; exact h)
  simpa using this
/-- A loop: its states at a round's head, a number that falls. -/
theorem dwp_loop {α : Type} {c : Code} (I : α → Env) (S : α → St) (ok : α → Prop) (μ : α → Nat) (x0 : α) (h0 : ok x0) (he : Env.sub (I x0) env) (hs : St.le (S x0) st)
    (round : ∀ x, ok x → ∀ K : Env → St → Prop, (∀ y env st, ok y → μ y < μ x → Env.sub (I y) env → St.le (S y) st → K env st) → dwp P n c (thenQ K Q) (I x) (S x)) : dwp P n (.loop c) Q env st := by
  intro B w0 M a w hI hE
  refine wpIn_loop_ghost (fun m a w => ∃ x M', m = μ x ∧ ok x ∧ M.lem M' ∧ Inv B w0 M' (S x) w ∧ RepE M' n (I x) a) (μ x0) ⟨x0, M, rfl, h0, .refl M, hI.weaken hs, hE.sub he⟩ ?_
  rintro m a' w' ⟨x, M', rfl, hok, hM, hI', hE'⟩
  rw [← hM.ro]
  have := round x hok (fun e s => ∃ y, ok y ∧ μ y < μ x ∧ Env.sub (I y) e ∧ St.le (S y) s) (fun y e s h1 h2 h3 h4 => ⟨y, h1, h2, h3, h4⟩) B w0 M' a' w' hI' hE'
  refine wpIn_mono this fun e a2 w2 hp => ?_
  cases e with
  | normal =>
    obtain ⟨M2, e2, s2, k1, k2, k3, y, k4, k5, k6, k7⟩ := hp
    exact ⟨μ y, k5, y, M2, rfl, k4, hM.trans k1, k2.weaken k7, k3.sub k6⟩
  | _ => exact hp.le hM

/-! ### calls -/
def Env.args : List AV → Nat → Env
  | [], _ => fun _ => .undef
  | v :: r, k => fun i => if i = k then v else Env.args r (k + 1) i
theorem args_get : ∀ (l : List AV) (k d : Nat), Env.args l k d = if k ≤ d then l.getD (d - k) .undef else .undef
  | [], k, d => by simp [Env.args]
  | v :: r, k, d => by
    simp only [Env.args, args_get r (k + 1) d]
    by_cases h : d = k
    · subst h; simp
    · rw [if_neg h]
      by_cases h1 : k ≤ d
      · rw [if_pos (by omega), if_pos h1, show d - k = (d - (k + 1)) + 1 by omega]; simp
      · rw [if_neg (by omega), if_neg h1]
/-- A function's results. -/
def resOne (P : Program) (env : Env) (st : St) : ResultVar → Option AV
  | .tmp t => some (env t)
  | .cell x t => match tiOf P t, env x with
    | some i, .box id off => match st id with
      | some (.cells _ cs) => if off + i.size ≤ cs.length ∧ (i.k.agg = false → i.size = 1) then some (if i.k.agg then .agg ((cs.drop off).take i.size) else cs.getD off .undef) else none
      | _ => none
    | _, _ => none
def resAll (P : Program) (env : Env) (st : St) : List ResultVar → Option (List AV)
  | [] => some []
  | r :: rs => match resOne P env st r, resAll P env st rs with
    | some v, some vs => some (v :: vs)
    | _, _ => none
def resAV (P : Program) (env : Env) (st : St) (rs : List ResultVar) : Option AV :=
  match resAll P env st rs with
  | some [v] => some v
  | some vs => some (.tup vs)
  | none => none
/-- What a body owes. -/
def retQ (P : Program) (fn : Func) (K : AV → St → Prop) : Exit → Env → St → Prop
  | .normal, env, st | .ret, env, st => ∃ r, resAV P env st fn.results.toList = some r ∧ ∃ r' st', AV.sub r' r ∧ St.le st' st ∧ K r' st'
  | _, _, _ => False
variable {B : Nat} {w0 w : World} {M : Mem} {a : Act}
def resSem (tmps : Array Value) : ResultVar → Sem Value
  | .tmp t => pure (tmps.getD t Go.undef)
  | .cell p t => do loadVar t (← asAddr (tmps.getD p Go.undef))
theorem results_eq (fn : Func) (tmps : Array Value) : results fn tmps = (do let vs ← fn.results.mapM (resSem tmps); pure (if h : vs.size = 1 then vs[0] else .tuple vs)) := by
  unfold results
  congr 1
theorem run_resOne (hI : Inv B w0 M st w) (hE : RepE M n env a) {r : ResultVar} {v : AV} (h : resOne P env st r = some v) :
    ∃ x, (resSem a.tmps r).run P w = .ok x w ∧ RepV M v x := by
  cases r with
  | tmp t => simp only [resOne, Option.some.injEq] at h; subst h; exact ⟨_, rfl, hE.slot t⟩
  | cell p t =>
    simp only [resOne] at h
    cases ht : tiOf P t with
    | none => simp [ht] at h
    | some i =>
      have hs := hE.slot p
      cases he : env p <;> simp only [ht, he, reduceCtorEq] at h
      rename_i id off
      rw [he] at hs
      have hz : a.tmps.getD p Go.undef = .pointer (some ⟨M.pos id, off, none⟩) := by generalize a.tmps.getD p Go.undef = z at hs; cases hs; rfl
      cases hst : st id with
      | none => simp [hst] at h
      | some o =>
        cases o <;> simp only [hst, reduceCtorEq] at h
        rename_i tt cs
        split at h
        · rename_i hc
          injection h with h
          subst h
          obtain ⟨_, arr, h1, h2, h3, h4⟩ := hI.obj id _ hst
          have hcell : ∀ j, j < i.size → w.cell? ((⟨M.pos id, off, none⟩ : Addr).add j) = some (arr.getD (off + j) Go.undef) := by
            intro j hj
            rw [addr_add, cell_of_row w _ _ _ _ _ h1]
            have : off + j < arr.size := by omega
            simp [this]
          refine ⟨_, by simp only [resSem, hz, asAddr, pure_bind]; exact run_loadVar' ht _ _ (fun h => by rw [hc.2 h]; omega) hcell, ?_⟩
          cases hag : i.k.agg with
          | true =>
            simp only [if_true]
            refine rep_agg_range i.size (by simp; omega) fun j => ?_
            rw [getD_drop]; exact h3 _
          | false => simpa using h3 off
        · cases h
theorem run_resAll (hI : Inv B w0 M st w) (hE : RepE M n env a) : ∀ (rs : List ResultVar) (vs : List AV), resAll P env st rs = some vs →
    ∃ xs : List Value, (rs.mapM (resSem a.tmps)).run P w = .ok xs w ∧ RepL M vs xs.toArray
  | [], vs, h => by
    simp only [resAll, Option.some.injEq] at h
    subst h
    exact ⟨[], by simp, rfl, fun j => by simpa using RepV.undef _⟩
  | r :: rs, vs, h => by
    simp only [resAll] at h
    cases h1 : resOne P env st r with
    | none => simp [h1] at h
    | some v =>
      cases h2 : resAll P env st rs with
      | none => simp [h1, h2] at h
      | some us =>
        simp only [h1, h2, Option.some.injEq] at h
        subst h
        obtain ⟨x, hx, hxr⟩ := run_resOne hI hE h1
        obtain ⟨xs, hxs, hxsr⟩ := run_resAll hI hE rs us h2
        refine ⟨x :: xs, ?_, by simpa using hxsr.1, fun j => ?_⟩
        · rw [List.mapM_cons]
          simp only [Sem.run_bind, hx, Result.andThen_ok, hxs, Sem.run_pure]
        · cases j with
          | zero => simpa using hxr
          | succ j => simpa using hxsr.2 j
theorem run_results (hI : Inv B w0 M st w) (hE : RepE M n env a) {fn : Func} {r : AV} (h : resAV P env st fn.results.toList = some r) : ∃ x, (results fn a.tmps).run P w = .ok x w ∧ RepV M r x := by
  unfold resAV at h
  cases h1 : resAll P env st fn.results.toList with
  | none => simp [h1] at h
  | some vs =>
    obtain ⟨xs, hx, hr⟩ := run_resAll hI hE _ _ h1
    have hrun : (results fn a.tmps).run P w = .ok (if h : xs.toArray.size = 1 then xs.toArray[0] else .tuple xs.toArray) w := by
      rw [results_eq, Array.mapM_eq_mapM_toList]
      simp only [Sem.run_bind, Sem.run_map, hx]
      rfl
    rw [hrun]
    match vs, h1, h, hr with
    | [], h1, h, hr =>
      simp only [h1, Option.some.injEq] at h
      subst h
      have : xs.toArray.size = 0 := hr.1
      exact ⟨_, by rw [dif_neg (by omega)], .tup _ _ hr.1 hr.2⟩
    | [v], h1, h, hr =>
      simp only [h1, Option.some.injEq] at h
      subst h
      have h1s : xs.toArray.size = 1 := hr.1
      refine ⟨_, by rw [dif_pos h1s], ?_⟩
      have := hr.2 0
      rw [Array.getD_eq_getD_getElem?, Array.getElem?_eq_getElem (by omega), Option.getD_some] at this
      simpa using this
    | v :: v' :: vs, h1, h, hr =>
      simp only [h1, Option.some.injEq] at h
      subst h
      have : xs.toArray.size = vs.length + 2 := hr.1
      exact ⟨_, by rw [dif_neg (by omega)], .tup _ _ hr.1 hr.2⟩
theorem leave_marks {R : Ending → World → Prop} {fn : Func} {tmps : Array Value} : ∀ (l : List Nat) {M : Mem} {w : World}, Inv B w0 M st w → M.ro = none → l.Nodup → (∀ D ∈ l, M.O D = some emptyBlock) →
    (∀ M' w', Inv B w0 M' st w' → M'.ro = none → M.up M' → (∀ k o, M.O k = some o → k ∉ l → M'.O k = some o) → ∃ v, (results fn tmps).run P w' = .ok v w' ∧ R (.returned v) w') →
    LeavesInM Fence.wide 0 P fn tmps R (l.map markOf) .returning w
  | [], M, w, hI, hro, _, _, h => h M w hI hro (Mem.le.refl M).toup fun _ _ e _ => e
  | D :: l, M, w, hI, hro, hn, hl, h => by
    rw [List.nodup_cons] at hn
    have hD := hl D (by simp)
    have ht := run_takeDeferred (P := P) (hI.oth D _ hD).1
    refine ⟨by simp, .inl ⟨D, _, rfl, ht, ?_⟩⟩
    refine leave_marks l (hI.turn hD (.deferred none) rfl (fun e => by rw [hro] at e; cases e)) hro hn.2 (fun E hE => ?_) fun M' w' h1 hr1 h2 h3 => ?_
    · show (if E = D then _ else M.O E) = _
      rw [if_neg (fun e : E = D => hn.1 (by rw [← e]; exact hE))]; exact hl E (by simp [hE])
    · refine h M' w' h1 hr1 ((up_act M M.ds M.ro _).trans h2) fun k o e hk => ?_
      simp only [List.mem_cons, not_or] at hk
      refine h3 k o ?_ hk.2
      show (if k = D then _ else M.O k) = _
      rw [if_neg hk.1]; exact e
theorem dcall_of_dwp {f : FuncId} {fn : Func} {c : Code} {args : List AV} {K : AV → St → Prop} (hf : P.funcs[f]? = some fn) (hb : fn.body = some c) (hn : (fn.name == "runtime.NumGoroutine") = false)
    (hl : args.length ≤ fn.ntmps) (h : dwp P fn.ntmps c (retQ P fn K) (Env.args args 0) st) : dcall P f args st K := by
  refine ⟨⟨fn, hf, hn, by rw [hb]; rfl⟩, fun B w0 M w vals hI hr => ?_⟩
  have hI1 := hI.act [] none hI.oth (fun _ _ _ => rfl) (fun _ e => by cases e)
  refine callsIn_wide.1 (callsIn_of_wp_marks (n := 0) hf hb trivial ?_ rfl)
  have hE : RepE (M.act [] none M.O) fn.ntmps (Env.args args 0) { tmps := vals ++ Array.replicate (fn.ntmps - vals.size) Go.undef, defers := [] } := by
    refine ⟨by simp [hr.1]; omega, rfl, fun d => RepV.mono' (up_act ..) ?_⟩
    rw [args_get, if_pos (Nat.zero_le _), Nat.sub_zero, agetD_append]
    by_cases hd : d < vals.size
    · rw [if_pos hd]; exact hr.2 d
    · rw [if_neg hd, List.getD_eq_getElem?_getD, List.getElem?_eq_none (by rw [← hr.1]; omega)]; exact .undef _
  refine wpIn_mono (h B w0 _ _ w hI1 hE) fun e a' w' hp => ?_
  have key : ∀ e, (e = .normal ∨ e = .ret) → Post B w0 (M.act [] none M.O) fn.ntmps (retQ P fn K e) a' w' → LeavesInM Fence.wide 0 P fn a'.tmps (fun e w' => ∃ x M' v st', e = .returned x ∧ M.le M' ∧ Inv B w0 M' st' w' ∧ RepV M' v x ∧ K v st') a'.defers .returning w' := by
    rintro e he ⟨M', env', st', h1, h2, h3, h4⟩
    have h4' : ∃ r, resAV P env' st' fn.results.toList = some r ∧ ∃ r' st2, AV.sub r' r ∧ St.le st2 st' ∧ K r' st2 := by
      rcases he with rfl | rfl <;> exact h4
    obtain ⟨r, hr1, r', st2, hs, hl, hk⟩ := h4'
    obtain ⟨l, d1, d2, d3⟩ := h1.ds
    have hds : a'.defers = l.map markOf := by rw [h3.defers, d1]; simp [Mem.act]
    rw [hds]
    refine leave_marks l h2 h1.ro d2 (fun D hD => (d3 D hD).1) fun M2 w2 k1 kr k2 k3 => ?_
    have hkO : ∀ k o, M.O k = some o → M2.O k = some o := fun k o e => k3 k o (h1.O k o e) fun hk => by
      have := (d3 k hk).2
      rw [show (M.act [] none M.O).O k = M.O k from rfl, e] at this; cases this
    have hE2 : RepE (M2.act a'.defers M2.ro M2.O) fn.ntmps env' a' := ⟨h3.size, rfl, fun d => (h3.slot d).mono' (k2.trans (up_act ..))⟩
    obtain ⟨x, hx, hxr⟩ := run_results (k1.act a'.defers M2.ro k1.oth (fun _ _ _ => rfl) k1.rnd) hE2 hr1
    refine ⟨x, hx, x, M2.act M.ds M.ro M2.O, r', st2, rfl, act_le (ds := []) (ro := none) (O := M.O) (h1.toup.trans k2) hkO rfl rfl, (k1.weaken hl).act _ _ k1.oth (fun _ _ _ => rfl) (fun l e => let ⟨r, hr⟩ := hI.rnd l e; ⟨r, hkO _ _ hr⟩), (hs _ x hxr).mono' ((act_up M2 _ _ _).trans (up_act ..)), hk⟩
  cases e with
  | normal => exact key _ (.inl rfl) hp
  | ret => exact key _ (.inr rfl) hp
  | _ => obtain ⟨M', env', st', h1, h2, h3, h4⟩ := hp; exact h4.elim
/-- A pure function's contract out of its body. -/
theorem pure_of_dwp {f : FuncId} {fn : Func} {c : Code} {args : List AV} {r : AV} (hf : P.funcs[f]? = some fn) (hb : fn.body = some c) (hn : (fn.name == "runtime.NumGoroutine") = false)
    (hl : args.length ≤ fn.ntmps) (h : ∀ st K, K r st → dwp P fn.ntmps c (retQ P fn K) (Env.args args 0) st) : PureC P f args r :=
  fun st K hK => dcall_of_dwp hf hb hn hl (h st K hK)
end
end Go.Sh
