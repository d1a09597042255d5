/- Shadow logic, part T: a loop over a function. -/
import Derived.Test.YtdhmbpipjdapfaaGreatShS
namespace Go.Sh
open Go.RowKit
section
variable {P : Program} {B n : Nat} {w0 w : World} {M : Mem} {st : St} {env : Env} {a : Act}

theorem Inv.O_none (h : Inv B w0 M st w) : M.O w.heap.size = none := by
  cases ho : M.O w.heap.size with
  | none => rfl
  | some o => have := (Array.getElem?_eq_some_iff.1 (h.oth _ _ ho).1).1; omega
/-- A block that holds no cells is laid; it lies beside. -/
theorem Inv.layO (h : Inv B w0 M st w) (o : Obj) (hc : o.isCells = false) : Inv B w0 (M.act M.ds M.ro fun k => if k = w.heap.size then some o else M.O k) st (w.alloc o) := by
  refine ⟨h.below.alloc h.size _, by simp; have := h.size; omega, fun a v e => ?_, h.dom, h.inj, fun id x e => ⟨(h.obj id x e).1, ?_⟩, fun k x e => ?_, fun k e => ?_⟩
  · have hm := h.mem a v e
    have hb := h.fblock e
    simp only [World.cell?, heap_alloc, show a.block ≠ w.heap.size by omega, if_false]
    exact hm
  · have hb := (h.obj id x e).2.block
    exact (h.obj id x e).2.act _ _ _ (if_neg (by omega)) (by rw [heap_alloc, if_neg (by omega)])
  · dsimp only [Mem.act] at e
    split at e
    · rename_i hk; subst hk; injection e with e; subst e; exact ⟨by rw [heap_alloc, if_pos rfl], hc, h.size⟩
    · obtain ⟨h1, h2⟩ := h.oth _ _ e
      have := (Array.getElem?_eq_some_iff.1 h1).1
      exact ⟨by rw [heap_alloc, if_neg (by omega)]; exact h1, h2⟩
  · obtain ⟨r, hr⟩ := h.rnd k e
    refine ⟨r, ?_⟩
    show (if k = w.heap.size then _ else M.O k) = _
    rw [if_neg (fun e => by rw [e, h.O_none] at hr; cases hr)]; exact hr
/-- A loop's record is laid. -/
theorem Inv.layLoop (h : Inv B w0 M st w) {ps : Array Tmp} {assign body : Code} (fn : FuncId) (tmps : Array Value) (dd : Nat) (hs : tmps.size = n) (hr : ∀ d, RepV M (env d) (tmps.getD d Go.undef)) :
    M.le (M.grow w.heap.size 0 0 #[]) ∧ Inv B w0 (M.grow w.heap.size 0 0 #[]) (st.upd M.next (.loop n env ps assign body none)) (w.alloc (.loop { state := .ready, pending := none, fn, tmps, params := ps, assign, body, defers := dd })) := by
  have hle := h.grow_le 0 0 #[]
  have key : ∀ i x, (st.upd M.next (.loop n env ps assign body none)) i = some x → i = M.next ∧ x = .loop n env ps assign body none ∨ i < M.next ∧ st i = some x := by
    intro i x e
    simp only [St.upd] at e
    split at e
    · rename_i hi; injection e with e; exact .inl ⟨hi, e.symm⟩
    · exact .inr ⟨h.dom i x e, e⟩
  refine ⟨hle, h.below.alloc h.size _, by simp; have := h.size; omega, fun a v e => ?_, fun i x e => ?_, fun i j oi oj ei ej hp => ?_, fun i x e => ?_, fun k x e => ?_, h.rnd⟩
  · simp only [Mem.grow] at e
    split at e
    · split at e
      · rename_i hs; omega
      · cases e
    · have hm := h.mem a v e
      rename_i hb
      simp only [World.cell?, heap_alloc, hb, if_false]
      exact hm
  · simp only [Mem.grow]
    rcases key i x e with ⟨e, _⟩ | ⟨e, _⟩ <;> omega
  · rcases key i oi ei with ⟨e1, _⟩ | ⟨e1, f1⟩ <;> rcases key j oj ej with ⟨e2, _⟩ | ⟨e2, f2⟩
    · omega
    · simp only [Mem.grow, e1, if_true] at hp
      rw [if_neg (by omega)] at hp
      have := (h.obj j oj f2).2.block; omega
    · simp only [Mem.grow, e2, if_true] at hp
      rw [if_neg (by omega)] at hp
      have := (h.obj i oi f1).2.block; omega
    · simp only [Mem.grow] at hp
      rw [if_neg (by omega), if_neg (by omega)] at hp
      exact h.inj i j oi oj f1 f2 hp
  · rcases key i x e with ⟨e1, e2⟩ | ⟨e1, f1⟩
    · subst e2
      simp only [Mem.grow, e1, if_true]
      exact ⟨h.size, fn, tmps, dd, by rw [heap_alloc, if_pos rfl]; rfl, hs, fun d => (hr d).mono hle, h.O_none⟩
    · have hb := (h.obj i x f1).2.block
      simp only [Mem.grow]
      rw [if_neg (by omega), if_neg (by omega)]
      refine ⟨(h.obj i x f1).1, (h.obj i x f1).2.keep hle (by rw [heap_alloc, if_neg (by omega)]) fun a ha => ?_⟩
      show (if _ then _ else _) = _; rw [if_neg (by omega)]
  · obtain ⟨h1, h2⟩ := h.oth _ _ (show M.O k = some x from e)
    have := (Array.getElem?_eq_some_iff.1 h1).1
    exact ⟨by rw [heap_alloc, if_neg (by omega)]; exact h1, h2⟩
/-- A loop's record is done with. -/
theorem Inv.dropLoop (h : Inv B w0 M st w) {id : Nat} {env : Env} {ps : Array Tmp} {assign body : Code} {left : Option Code} (hid : st id = some (.loop n env ps assign body left)) (o : Obj) :
    Inv B w0 M (st.del id) (w.putObj (M.pos id) o) := by
  obtain ⟨hB, fn, tmps, dd, h1, _, _, hO⟩ := h.obj id _ hid
  have key : ∀ i x, (st.del id) i = some x → i ≠ id ∧ st i = some x := by
    intro i x e
    simp only [St.del] at e
    split at e
    · cases e
    · rename_i hi; exact ⟨hi, e⟩
  refine ⟨Below.turn h.below hB o, by simpa using h.size, h.mem_turn h1 rfl o, fun i x e => h.dom i x (key i x e).2, fun i j oi oj ei ej => h.inj i j oi oj (key _ _ ei).2 (key _ _ ej).2, fun i x e => ?_, fun k x e => ?_, h.rnd⟩
  · obtain ⟨e1, e2⟩ := key i x e
    have hne : M.pos i ≠ M.pos id := fun hp => e1 (h.inj i id x _ e2 hid hp)
    exact ⟨(h.obj i x e2).1, (h.obj i x e2).2.keep (.refl M) (World.putObj_heap_other hne) fun _ _ => rfl⟩
  · obtain ⟨k1, k2⟩ := h.oth k x e
    have hne : k ≠ M.pos id := by rintro rfl; rw [hO] at e; cases e
    exact ⟨(World.putObj_heap_other hne).trans k1, k2⟩

/-- How a loop over a function is left. -/
def loopQ (P : Program) (n : Nat) (id : Nat) (Q : Exit → Env → St → Prop) (env : Env) (st2 : St) : Option AObj → Prop
  | some (.loop _ _ _ _ _ none) => Q .normal env (st2.del id)
  | some (.loop _ _ _ _ _ (some c)) => dwp P n c Q env (st2.del id)
  | _ => False
theorem dwp_rangeFunc {g : Operand} {ps : Array Tmp} {assign body : Code} {Q : Exit → Env → St → Prop} {gf : FuncId} {caps : List AV} (hg : env.op g = .fn gf caps)
    (h : ∀ id, st id = none → dcall P gf (.yld id :: caps) (st.upd id (.loop n env ps assign body none)) fun _ st2 => loopQ P n id Q env st2 (st2 id)) : dwp P n (.rangeFunc g ps assign body) Q env st := by
  intro B w0 M a w hI hE
  refine wpIn_rangeFunc fun fn _ => ?_
  have hfr := hE.op g
  rw [hg] at hfr
  obtain ⟨cs, hev, hsz, hcs⟩ : ∃ cs, a.eval g = .func (.func gf) #[] cs ∧ cs.size = caps.length ∧ ∀ j, RepV M (caps.getD j .undef) (cs.getD j Go.undef) := by
    generalize a.eval g = z at hfr
    cases hfr
    exact ⟨_, rfl, by assumption, by assumption⟩
  have hnone : st M.next = none := by
    cases hs : st M.next with
    | none => rfl
    | some o => have := hI.dom _ _ hs; omega
  have hcall := h M.next hnone
  have hok := hcall.1
  -- what is the same for both
  have main : ∀ (M1 : Mem) (w1 : World) (dd : Nat) (mark : List Deferred), M.up M1 → M1.next = M.next → Inv B w0 M1 st w1 → (∀ k o, M.O k = some o → M1.O k = some o) → M1.ro = M.ro → M1.ds = M.ds →
      (∃ l : List Nat, mark = l.map markOf ∧ l.Nodup ∧ ∀ D ∈ l, M1.O D = some emptyBlock ∧ M.O D = none) →
      (Instr.enterLoop fn a.tmps ps assign body (fen M.ro).round).run P w = .ok (w1.heap.size, mark) (w1.alloc (.loop { state := .ready, pending := none, fn, tmps := a.tmps, params := ps, assign, body, defers := dd })) →
      ∃ (l : Nat) (mark : List Deferred) (w₁ : World) (d : Deferred) (w₁' : World) (f : FuncId) (args : Array Value) (w₂ : World),
      (Instr.enterLoop fn a.tmps ps assign body (fen M.ro).round).run P w = .ok (l, mark) w₁ ∧
      (resolve a.eval (rangeCall g l) 0).run P w₁ = .ok d w₁' ∧
      (∀ f', Target.leads P w₁' d.target d.args = some f' → (fen M.ro).fn f') ∧
      (invoke d.target d.args).run P w₁' = .ok (.enter f args) w₂ ∧
      ((fen M.ro).depth.isSome = true → 1 ≤ 0) ∧
      CallsIn (fen M.ro) (0 - 1) P f args w₂ (rangePost (fen M.ro) 0 P l (fun e a' w' => Post B w0 M n (Q e) a' w') { a with defers := mark ++ a.defers }) := by
    intro M1 w1 dd mark hup hnx hI1 hO1 hro hds ⟨l, hm, hnd, hl⟩ hent
    obtain ⟨hle2, hI2⟩ := hI1.layLoop (n := n) (env := env) (ps := ps) (assign := assign) (body := body) fn a.tmps dd hE.size (fun d => (hE.slot d).mono' hup)
    rw [hnx] at hI2
    have hup2 : M.up (M1.grow w1.heap.size 0 0 #[]) := hup.trans hle2.toup
    have hpos2 : (M1.grow w1.heap.size 0 0 #[]).pos M.next = w1.heap.size := by simp [Mem.grow, hnx]
    have hnext2 : M.next < (M1.grow w1.heap.size 0 0 #[]).next := by simp [Mem.grow, hnx]
    have hargs : RepL (M1.grow w1.heap.size 0 0 #[]) (.yld M.next :: caps) (#[Value.func (.yield w1.heap.size) #[] #[]] ++ cs) := by
      refine RepL.append (cs := [.yld M.next]) ⟨rfl, fun j => ?_⟩ ⟨hsz, fun j => (hcs j).mono' hup2⟩
      cases j with
      | zero =>
        have := RepV.yld (M := M1.grow w1.heap.size 0 0 #[]) M.next hnext2
        rw [hpos2] at this
        exact this
      | succ j => simp; exact .undef _
    obtain ⟨fnn, f1, f2, f3⟩ := hok
    obtain ⟨W2, hW2⟩ : ∃ W2, w1.alloc (.loop { state := .ready, pending := none, fn, tmps := a.tmps, params := ps, assign, body, defers := dd }) = W2 := ⟨_, rfl⟩
    rw [hW2] at hent hI2
    refine ⟨w1.heap.size, mark, W2, { target := .fn (.func gf) cs, args := #[.func (.yield w1.heap.size) #[] #[]] }, W2, gf, #[.func (.yield w1.heap.size) #[] #[]] ++ cs, W2, hent, ?_, fun _ _ => trivial, ?_, fun hd => (by simp [fen, Fence.wide] at hd), calls_fen ?_⟩
    · simp only [resolve, hev]
      simp [go_sem]
    · have : (callFunc gf (#[Value.func (.yield w1.heap.size) #[] #[]] ++ cs)).run P W2 = .ok (.enter gf (#[Value.func (.yield w1.heap.size) #[] #[]] ++ cs)) W2 := by
        simp only [callFunc, Sem.run_bind, run_program, Result.andThen_ok, f1, f2, f3, Bool.false_eq_true, if_false, Sem.run_pure]
      simp [invoke, go_sem, this]
    · refine (hcall.2 B w0 _ _ _ hI2 hargs).mono fun e w3 ⟨x, M3, v, st3, he, k1, k2, k3, k4⟩ => ?_
      subst he
      have hp3 : M3.pos M.next = w1.heap.size := (k1.pos _ hnext2).trans hpos2
      have hO3 : ∀ k o, M1.O k = some o → M3.O k = some o := fun k o e => k1.O k o e
      have hlem : ∀ ds, ds = mark ++ M.ds → M.lem (M3.act ds M.ro M3.O) := by
        intro ds hds
        refine ⟨(hup2.trans k1.toup).trans (up_act ..), fun k o e => hO3 k o (hO1 k o e), ⟨l, ?_, hnd, fun D hD => ⟨hO3 _ _ (hl D hD).1, (hl D hD).2⟩⟩, rfl⟩
        show ds = _
        rw [hds, hm]
      have hIact : ∀ (st' : St) (w' : World), Inv B w0 M3 st' w' → ∀ ds, Inv B w0 (M3.act ds M.ro M3.O) st' w' := fun st' w' hh ds =>
        hh.act _ _ hh.oth (fun _ _ _ => rfl) fun l e => let ⟨r, hr⟩ := hI.rnd l e; ⟨r, hO3 _ _ (hO1 _ _ hr)⟩
      have hE3 : RepE (M3.act (mark ++ M.ds) M.ro M3.O) n env { a with defers := mark ++ a.defers } := ⟨hE.size, by rw [hE.defers]; rfl, fun d => (hE.slot d).mono' ((hup2.trans k1.toup).trans (up_act ..))⟩
      replace k4 : loopQ P n M.next Q env st3 (st3 M.next) := k4
      unfold loopQ at k4
      split at k4
      · rename_i n' env' ps' as' bo' hs
        obtain ⟨_, fn', tmps', dd', hh, _⟩ := k2.obj _ _ hs
        rw [hp3] at hh
        refine ⟨_, _, run_endLoop (P := P) hh (by simp), ?_⟩
        have hdrop := k2.dropLoop hs (.loop { state := .exhausted, pending := none, fn := fn', tmps := tmps', params := ps', assign := as', body := bo', defers := dd' })
        rw [hp3] at hdrop
        exact ⟨_, env, _, hlem _ rfl, hIact _ _ hdrop _, hE3, k4⟩
      · rename_i n' env' ps' as' bo' c hs
        obtain ⟨_, fn', tmps', dd', hh, _⟩ := k2.obj _ _ hs
        rw [hp3] at hh
        refine ⟨_, _, run_endLoop (P := P) hh (by simp), ?_⟩
        have hdrop := k2.dropLoop hs (.loop { state := .exhausted, pending := some c, fn := fn', tmps := tmps', params := ps', assign := as', body := bo', defers := dd' })
        rw [hp3] at hdrop
        exact wpIn_mono (k4 B w0 (M3.act (mark ++ M.ds) M.ro M3.O) _ _ (hIact _ _ hdrop (mark ++ M.ds)) hE3) fun _ _ _ hp => hp.le (hlem _ rfl)
      · exact k4.elim
  have hcase : M.ro = none ∨ ∃ l0, M.ro = some l0 := by cases M.ro <;> simp
  rcases hcase with hro | ⟨l0, hro⟩
  ·
    have h1 := hI.layO emptyBlock rfl
    refine main (M.act M.ds M.ro fun k => if k = w.heap.size then some emptyBlock else M.O k) (w.alloc emptyBlock) w.heap.size [markOf w.heap.size] (up_act ..) rfl h1 (fun k o e => ?_) rfl rfl ⟨[w.heap.size], rfl, by simp, fun D hD => ?_⟩ ?_
    · show (if k = w.heap.size then _ else M.O k) = _
      rw [if_neg (fun hk => by rw [hk, hI.O_none] at e; cases e)]; exact e
    · simp only [List.mem_singleton] at hD
      subst hD
      exact ⟨if_pos rfl, hI.O_none⟩
    · rw [hro]
      have := run_enterLoop_outer (P := P) (w := w) fn a.tmps ps assign body
      rw [size_alloc]
      exact this
  · obtain ⟨r, hr⟩ := hI.rnd l0 hro
    refine main M w r.defers [] (Mem.le.refl M).toup rfl hI (fun _ _ e => e) rfl rfl ⟨[], rfl, List.nodup_nil, fun _ h => by cases h⟩ ?_
    rw [hro]
    exact run_enterLoop_inner (P := P) (hI.oth _ _ hr).1 fn a.tmps ps assign body
end
end Go.Sh
