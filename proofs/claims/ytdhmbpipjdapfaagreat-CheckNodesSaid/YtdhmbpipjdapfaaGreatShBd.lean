import Derived.Test.YtdhmbpipjdapfaaGreatShBc
import Derived.Orders
set_option linter.unusedSimpArgs false
set_option linter.unusedVariables false

/- Shadow logic, part L: an operation, whichever, is sound. -/
namespace Go.Sh
open Go.RowKit
section
variable {P : Program} {B n : Nat} {w0 w : World} {M : Mem} {st : St} {K : AV → St → Prop} {env : Env} {a : Act}

theorem reps_map (hE : RepE M n env a) (xs : Array Operand) : RepL M (xs.toList.map env.op) (xs.map a.eval) := by
  refine ⟨by simp, fun j => ?_⟩
  rw [List.getD_eq_getElem?_getD, Array.getD_eq_getD_getElem?]
  simp only [List.getElem?_map, Array.getElem?_toList, Array.getElem?_map]
  cases xs[j]? with
  | none => exact .undef _
  | some x => exact hE.op x
theorem RepL.append {M : Mem} {cs ds : List AV} {vs us : Array Value} (h : RepL M cs vs) (k : RepL M ds us) : RepL M (cs ++ ds) (vs ++ us) := by
  refine ⟨by simp [h.1, k.1], fun j => ?_⟩
  rw [agetD_append, List.getD_eq_getElem?_getD]
  by_cases hj : j < vs.size
  · rw [if_pos hj, List.getElem?_append_left (by rw [← h.1]; exact hj), ← List.getD_eq_getElem?_getD]
    exact h.2 j
  · rw [if_neg hj, List.getElem?_append_right (by rw [← h.1]; omega), ← h.1, ← List.getD_eq_getElem?_getD]
    exact k.2 _
theorem sound_call {f : FuncId} {args : List AV} {vals : Array Value} (hv : RepL M args vals) (h : dcall P f args st K) : Out P B w0 M st w K ((callFunc f vals).run P w) := by
  obtain ⟨⟨fn, h1, h2, h3⟩, _⟩ := id h
  have : (callFunc f vals).run P w = .ok (.enter f vals) w := by
    simp only [callFunc, Sem.run_bind, run_program, Result.andThen_ok, h1, h2, h3, Bool.false_eq_true, if_false, Sem.run_pure]
  rw [this]
  exact ⟨rfl, args, hv, h⟩

/-- Another activation. -/
def Mem.act (M : Mem) (ds : List Deferred) (ro : Option Nat) (O : Nat → Option Obj) : Mem := { M with ds := ds, ro := ro, O := O }
theorem up_act (M : Mem) (ds : List Deferred) (ro : Option Nat) (O : Nat → Option Obj) : M.up (M.act ds ro O) := ⟨fun _ _ h => h, Nat.le_refl _, fun _ _ => rfl, fun _ _ => rfl⟩
theorem act_up (M : Mem) (ds : List Deferred) (ro : Option Nat) (O : Nat → Option Obj) : (M.act ds ro O).up M := ⟨fun _ _ h => h, Nat.le_refl _, fun _ _ => rfl, fun _ _ => rfl⟩
theorem ObjOk.act {M : Mem} {w w' : World} {b cap : Nat} {o : AObj} (h : ObjOk M w b cap o) (ds : List Deferred) (ro : Option Nat) (O : Nat → Option Obj) (hO : O b = M.O b) (hw : w'.heap[b]? = w.heap[b]? := by rfl) : ObjOk (M.act ds ro O) w' b cap o := by
  cases o with
  | cells t cs => obtain ⟨arr, h1, h2, h3, h4⟩ := h; exact ⟨arr, hw.trans h1, h2, fun j => (h3 j).mono' (up_act ..), h4⟩
  | spare t sz n => obtain ⟨arr, h1, h2⟩ := h; exact ⟨arr, hw.trans h1, h2⟩
  | map es clock =>
    obtain ⟨h0, arr, h1, h2, h3⟩ := h
    exact ⟨hO.trans h0, arr, hw.trans h1, h2, fun j e x he hx => ⟨(h3 j e x he hx).1.mono' (up_act ..), (h3 j e x he hx).2.1.mono' (up_act ..), (h3 j e x he hx).2.2⟩⟩
  | iter m since seen last => exact ⟨hO.trans h.1, hw.trans h.2.1, h.2.2⟩
  | busy => exact ⟨by rw [hw]; exact h.1, by show (O b).isSome = true; rw [hO]; exact h.2⟩
  | loop n env ps assign body left => obtain ⟨fn, tmps, dd, h1, h2, h3, h4⟩ := h; exact ⟨fn, tmps, dd, hw.trans h1, h2, fun d => (h3 d).mono' (up_act ..), hO.trans h4⟩
theorem Inv.act (h : Inv B w0 M st w) (ds : List Deferred) (ro : Option Nat) {O : Nat → Option Obj} (hO : ∀ k o, O k = some o → w.heap[k]? = some o ∧ o.isCells = false ∧ B ≤ k) (hs : ∀ id o, st id = some o → O (M.pos id) = M.O (M.pos id)) (hrn : ∀ l, ro = some l → ∃ r, O l = some (.loop r)) : Inv B w0 (M.act ds ro O) st w :=
  ⟨h.below, h.size, h.mem, h.dom, h.inj, fun id o e => ⟨(h.obj id o e).1, (h.obj id o e).2.act ds ro O (hs id o e)⟩, hO, hrn⟩
theorem act_le {M1 M2 : Mem} {ds ds' : List Deferred} {ro ro' : Option Nat} {O O' : Nat → Option Obj} (h : (M1.act ds ro O).up M2) (hO : ∀ k o, M1.O k = some o → O' k = some o) (hd : ds' = M1.ds) (hr : ro' = M1.ro) : M1.le (M2.act ds' ro' O') :=
  ⟨⟨h.F, h.next, h.pos, h.cap⟩, hO, hd, hr⟩
/-- No object lies where something lies beside. -/
theorem Inv.pos_ne (h : Inv B w0 M st w) {l : Nat} {o : Obj} (hl : M.O l = some o) {i : Nat} {x : AObj} (hi : st i = some x) (hx : x ≠ .busy) : M.pos i ≠ l := by
  rintro rfl
  obtain ⟨h1, h2⟩ := h.oth _ _ hl
  have := (h.obj i x hi).2
  cases x with
  | cells t cs => obtain ⟨arr, e, _⟩ := this; rw [h1] at e; injection e with e; subst e; cases h2.1
  | spare t sz n => obtain ⟨arr, e, _⟩ := this; rw [h1] at e; injection e with e; subst e; cases h2.1
  | map es clock => have h0 := this.1; rw [hl] at h0; cases h0
  | iter m since seen last => have h0 := this.1; rw [hl] at h0; cases h0
  | busy => exact absurd rfl hx
  | loop n env ps assign body left => obtain ⟨fn, tmps, dd, _, _, _, e⟩ := this; rw [hl] at e; cases e
theorem Below.turn {B : Nat} {w0 w : World} (h : Below B w0 w) {l : Nat} (hB : B ≤ l) (o : Obj) : Below B w0 (w.putObj l o) :=
  ⟨h.os, h.tape, h.output, by simpa using h.size, fun i hi => by rw [World.putObj_heap_other (by omega)]; exact h.block i hi⟩
theorem Inv.mem_turn (h : Inv B w0 M st w) {l : Nat} {o : Obj} (hl : w.heap[l]? = some o) (hc : o.isCells = false) (o' : Obj) : ∀ a v, M.F a = some v → (w.putObj l o').cell? a = some v := by
  intro a v e
  have hm := h.mem a v e
  have hne : a.block ≠ l := by
    rintro rfl
    simp only [World.cell?, hl] at hm
    cases o <;> simp [Obj.isCells] at hm hc
  simp only [World.cell?]
  rw [World.putObj_heap_other hne]
  exact hm
/-- What lies beside is turned. -/
theorem Inv.turn (h : Inv B w0 M st w) {l : Nat} {o : Obj} (hl : M.O l = some o) (o' : Obj) (hc : o'.isCells = false) (hrn : M.ro = some l → ∃ r, o' = .loop r) : Inv B w0 (M.act M.ds M.ro fun k => if k = l then some o' else M.O k) st (w.putObj l o') := by
  obtain ⟨h1, h2, hB⟩ := h.oth _ _ hl
  have hlt := (Array.getElem?_eq_some_iff.1 h1).1
  refine ⟨Below.turn h.below hB o', by simpa using h.size, h.mem_turn h1 h2 o', h.dom, h.inj, fun id x e => ⟨(h.obj id x e).1, ?_⟩, fun k x e => ?_, fun k e => ?_⟩
  · by_cases hx : x = .busy
    · subst hx
      have := (h.obj id _ e).2
      refine ⟨?_, ?_⟩
      · show ((w.putObj l o').heap[M.pos id]?).isSome = true
        by_cases hp : M.pos id = l
        · rw [hp, World.putObj_heap_same hlt]; rfl
        · rw [World.putObj_heap_other hp]; exact this.1
      · show (if M.pos id = l then some o' else M.O (M.pos id)).isSome = true
        by_cases hp : M.pos id = l
        · rw [if_pos hp]; rfl
        · rw [if_neg hp]; exact this.2
    have hne := h.pos_ne hl e hx
    exact (h.obj id x e).2.act _ _ _ (if_neg hne) (World.putObj_heap_other hne)
  · dsimp only [Mem.act] at e
    split at e
    · rename_i hk; subst hk; injection e with e; subst e; exact ⟨World.putObj_heap_same hlt, hc, hB⟩
    · rename_i hk; obtain ⟨k1, k2⟩ := h.oth _ _ e; exact ⟨(World.putObj_heap_other hk).trans k1, k2⟩
  · show ∃ r, (if k = l then some o' else M.O k) = _
    by_cases hk : k = l
    · subst hk; rw [if_pos rfl]; obtain ⟨r, hr⟩ := hrn e; exact ⟨r, by rw [hr]⟩
    · rw [if_neg hk]; exact h.rnd k e
/-- The loop's record is told of again. -/
theorem Inv.settle (h : Inv B w0 M st w) {l : Nat} {o : Obj} (hl : M.O l = some o) {id : Nat} (hid : st id = some .busy) (hpos : M.pos id = l) (ds : List Deferred) (ro : Option Nat)
    {n : Nat} {env : Env} {ps : Array Tmp} {assign body : Code} {left : Option Code} {fn : FuncId} {tmps : Array Value} {dd : Nat} (hs : tmps.size = n) (hr : ∀ d, RepV M (env d) (tmps.getD d Go.undef)) (hrn : ∀ l', ro = some l' → l' ≠ l ∧ ∃ r, M.O l' = some (.loop r)) :
    Inv B w0 (M.act ds ro fun k => if k = l then none else M.O k) (st.upd id (.loop n env ps assign body left)) (w.putObj l (.loop { state := if left.isNone then .ready else .done, pending := left, fn, tmps, params := ps, assign, body, defers := dd })) := by
  obtain ⟨h1, h2, hB⟩ := h.oth _ _ hl
  have hlt := (Array.getElem?_eq_some_iff.1 h1).1
  have key : ∀ i x, (st.upd id (.loop n env ps assign body left)) i = some x → i = id ∧ x = .loop n env ps assign body left ∨ i ≠ id ∧ st i = some x := by
    intro i x e
    simp only [St.upd] at e
    split at e
    · rename_i hi; injection e with e; exact .inl ⟨hi, e.symm⟩
    · rename_i hi; exact .inr ⟨hi, e⟩
  refine ⟨Below.turn h.below hB _, by simpa using h.size, h.mem_turn h1 h2 _, fun i x e => ?_, fun i j oi oj ei ej hp => ?_, fun i x e => ?_, fun k x e => ?_, fun k e => ?_⟩
  · rcases key i x e with ⟨rfl, _⟩ | ⟨_, e⟩
    · exact h.dom _ _ hid
    · exact h.dom i x e
  · rcases key i oi ei with ⟨ei1, _⟩ | ⟨_, ei⟩ <;> rcases key j oj ej with ⟨ej1, _⟩ | ⟨_, ej⟩
    · rw [ei1, ej1]
    · rw [ei1] at hp ⊢; exact h.inj _ _ _ _ hid ej hp
    · rw [ej1] at hp ⊢; exact h.inj _ _ _ _ ei hid hp
    · exact h.inj i j oi oj ei ej hp
  · rcases key i x e with ⟨rfl, rfl⟩ | ⟨_, e⟩
    · show B ≤ M.pos i ∧ ObjOk _ _ (M.pos i) _ _
      rw [hpos]
      exact ⟨hB, fn, tmps, dd, World.putObj_heap_same hlt, hs, fun d => (hr d).mono' (up_act ..), if_pos rfl⟩
    · rename_i hni
      have hne : M.pos i ≠ l := fun hp => hni (h.inj i id x _ e hid (hp.trans hpos.symm))
      exact ⟨(h.obj i x e).1, (h.obj i x e).2.act _ _ _ (if_neg hne) (World.putObj_heap_other hne)⟩
  · dsimp only [Mem.act] at e
    split at e
    · cases e
    · rename_i hk; obtain ⟨k1, k2⟩ := h.oth _ _ e; exact ⟨(World.putObj_heap_other hk).trans k1, k2⟩
  · obtain ⟨h1, r, h2⟩ := hrn k e
    exact ⟨r, by show (if k = l then none else M.O k) = _; rw [if_neg h1]; exact h2⟩
theorem rep_putAll {n : Nat} : ∀ (l : List (Tmp × AV)) (vs : List Value) {env : Env} {tmps : Array Value}, (∀ p ∈ l, p.1 < n) → l.length = vs.length → (∀ j, RepV M ((l.map (·.2)).getD j .undef) (vs.getD j Go.undef)) →
    RepE M n env { tmps, defers := M.ds } → RepE M n (putAll env l) { tmps := ((l.map (·.1)).zip vs).foldl (fun t (p : Tmp × Value) => t.setIfInBounds p.1 p.2) tmps, defers := M.ds }
  | [], vs, env, tmps, _, _, _, h => by simpa [putAll] using h
  | (d, v) :: l, [], _, _, _, hl, _, _ => by simp at hl
  | (d, v) :: l, x :: vs, env, tmps, hp, hl, hr, h => by
    simp only [putAll, List.map_cons, List.zip_cons_cons, List.foldl_cons]
    have h0 := hr 0
    simp only [List.map_cons, List.getD_cons_zero] at h0
    refine rep_putAll l vs (fun p hp' => hp p (by simp [hp'])) (by simpa using hl) (fun j => ?_) (h.put (some d) (fun i e => by cases e; exact hp (d, v) (by simp)) h0)
    have := hr (j + 1)
    simpa using this
/-- A round's turn. -/
theorem upd_key' {st : St} {id : Nat} {o : AObj} {i : Nat} {x : AObj} (e : (st.upd id o) i = some x) : i = id ∧ x = o ∨ i ≠ id ∧ st i = some x := by
  simp only [St.upd] at e
  split at e
  · rename_i hi; injection e with e; exact .inl ⟨hi, e.symm⟩
  · rename_i hi; exact .inr ⟨hi, e⟩
theorem sound_yield (hI : Inv B w0 M st w) {id : Nat} {args : List AV} {vals : Array Value} (hv : RepL M args vals) (h : dround P id args (st id) st K) : Out P B w0 M st w K ((Instr.yield (M.pos id) vals).run P w) := by
  unfold dround at h
  split at h
  case h_2 => exact h.elim
  rename_i n env0 ps assign body hid
  obtain ⟨hlen, hps, hd⟩ := h
  obtain ⟨hB, fn, tmps, dd, hheap, hsz, hrep, hO⟩ := hI.obj id _ hid
  have hnx := hI.dom _ _ hid
  have hy := run_yield (P := P) (args := vals) hheap (by rw [hv.1]; exact hlen)
  rw [hy]
  refine ⟨rfl, roundIn_of_wpIn trivial ?_⟩
  generalize hl : M.pos id = l at *
  obtain ⟨O1, hO1⟩ : ∃ O1 : Nat → Option Obj, O1 = fun k => if k = l then some (.loop { state := .ready, pending := none, fn, tmps, params := ps, assign, body, defers := dd }) else M.O k := ⟨_, rfl⟩
  have hkey : ∀ i x, (st.upd id .busy) i = some x → (i = id ∧ x = .busy) ∨ (i ≠ id ∧ st i = some x) := fun i x e => upd_key' e
  have hI1 : Inv B w0 (M.act [] (some l) O1) (st.upd id .busy) w := by
    refine ⟨hI.below, hI.size, hI.mem, fun i x e => ?_, fun i j oi oj ei ej hp => ?_, fun i x e => ?_, fun k o e => ?_, fun k e => ?_⟩
    · rcases hkey i x e with ⟨rfl, _⟩ | ⟨_, e⟩
      · exact hnx
      · exact hI.dom i x e
    · have key2 : ∀ i x, (st.upd id .busy) i = some x → ∃ y, st i = some y := by
        intro i x e
        rcases hkey i x e with ⟨rfl, _⟩ | ⟨_, e⟩
        · exact ⟨_, hid⟩
        · exact ⟨_, e⟩
      obtain ⟨_, fi⟩ := key2 i oi ei
      obtain ⟨_, fj⟩ := key2 j oj ej
      exact hI.inj i j _ _ fi fj hp
    · rcases hkey i x e with ⟨rfl, rfl⟩ | ⟨hne, e⟩
      · refine ⟨by show B ≤ M.pos i; rw [hl]; exact hB, by show (w.heap[M.pos i]?).isSome = true; rw [hl, hheap]; rfl, ?_⟩
        show (O1 (M.pos i)).isSome = true
        rw [hO1, hl]; simp
      · have hp : M.pos i ≠ l := fun hp => hne (hI.inj i id x _ e hid (hp.trans hl.symm))
        refine ⟨(hI.obj i x e).1, (hI.obj i x e).2.act _ _ _ ?_⟩
        rw [hO1]; exact if_neg hp
    · have e' : O1 k = some o := e
      rw [hO1] at e'
      dsimp only at e'
      split at e'
      · rename_i hk; subst hk; injection e' with e'; subst e'; exact ⟨hheap, rfl, hB⟩
      · exact hI.oth k o e'
    · have e' : some l = some k := e
      cases e'; exact ⟨_, by show O1 l = _; rw [hO1]; exact if_pos rfl⟩
  have hE1 : RepE (M.act [] (some l) O1) n (putAll env0 (ps.toList.zip args)) { tmps := (ps.zip vals).foldl (fun t (p : Tmp × Value) => t.setIfInBounds p.1 p.2) tmps, defers := [] } := by
    have h0 : RepE (M.act [] (some l) O1) n env0 { tmps, defers := [] } := ⟨hsz, rfl, fun d => (hrep d).mono' (up_act ..)⟩
    have := rep_putAll (M := M.act [] (some l) O1) (ps.toList.zip args) vals.toList (n := n) (env := env0) (tmps := tmps) (fun p hp => by
      have := List.all_eq_true.1 hps p.1 (List.of_mem_zip hp).1
      simpa using this) (by simp [hlen, hv.1]) (fun j => by
        have e1 : (ps.toList.zip args).map (·.2) = args := by rw [List.map_snd_zip]; simp [hlen]
        rw [e1]
        have := (hv.2 j).mono' (up_act M [] (some l) O1)
        rw [Array.getD_eq_getD_getElem?] at this
        rw [List.getD_eq_getElem?_getD (l := vals.toList), Array.getElem?_toList]; exact this) h0
    have e2 : (ps.toList.zip args).map (·.1) = ps.toList := by rw [List.map_fst_zip]; simp [hlen]
    rw [e2] at this
    rw [← Array.foldl_toList, Array.toList_zip]
    exact this
  have hb1 := hd B w0 _ _ w hI1 hE1
  refine wpIn_mono (show assign.wpIn (Fence.wide.inRound l) 0 P _ _ w from hb1) fun e a1 w1 hp => ?_
  obtain ⟨M2, e1, s1, h1, h2, h3, h4⟩ := hp
  cases e <;> try exact h4.elim
  have hM2l : M2.O l = some (.loop { state := .ready, pending := none, fn, tmps, params := ps, assign, body, defers := dd }) := h1.O l _ (by show O1 l = _; rw [hO1]; exact if_pos rfl)
  have hbr := run_beginRound (P := P) (h2.oth l _ hM2l).1 rfl
  refine ⟨_, hbr, ?_⟩
  have hI3 := h2.turn hM2l (.loop { state := .busy, pending := none, fn, tmps, params := ps, assign, body, defers := dd }) rfl (fun _ => ⟨_, rfl⟩)
  have hE3 : RepE (M2.act M2.ds M2.ro fun k => if k = l then some (.loop { state := .busy, pending := none, fn, tmps, params := ps, assign, body, defers := dd }) else M2.O k) n e1 a1 := ⟨h3.size, h3.defers, fun d => (h3.slot d).mono' (up_act ..)⟩
  have hb2 := h4 B w0 _ _ _ hI3 hE3
  have hro : M2.ro = some l := h1.ro
  refine wpIn_mono (show body.wpIn (Fence.wide.inRound l) 0 P _ _ _ from by
    have : fen (M2.act M2.ds M2.ro fun k => if k = l then some (.loop { state := .busy, pending := none, fn, tmps, params := ps, assign, body, defers := dd }) else M2.O k).ro = Fence.wide.inRound l := by
      show fen M2.ro = _
      rw [hro]; rfl
    rw [this] at hb2
    exact hb2) fun e a3 w3 hp => ?_
  obtain ⟨M4, e3, s3, k1, k2, k3, k4⟩ := hp
  have hM4l := k1.O l _ (show (if l = l then _ else _) = _ from if_pos rfl)
  have hup : M.up M4 := (up_act M [] (some l) O1).trans (h1.toup.trans ((up_act M2 _ _ _).trans k1.toup))
  have fin : ∀ (left : Option Code) (b : Bool), b = left.isNone → s3 id = some .busy ∧ K (.bool b) (s3.upd id (.loop n env0 ps assign body left)) →
      ∃ v w', (Instr.endRound l left).run P w3 = .ok v w' ∧ ∃ x M' v' st', Ending.returned v = .returned x ∧ M.le M' ∧ Inv B w0 M' st' w' ∧ RepV M' v' x ∧ K v' st' := by
    rintro left b hb ⟨hbz, hk⟩
    refine ⟨_, _, run_endRound (P := P) left (k2.oth l _ hM4l).1, _, M4.act M.ds M.ro (fun k => if k = l then none else M4.O k), _, _, rfl, ?_, k2.settle hM4l hbz ((hup.pos id hnx).trans hl) M.ds M.ro hsz (fun d => (hrep d).mono' hup) (fun l' e => ?_), ?_, hk⟩
    · refine ⟨hup.trans (up_act ..), fun k o e => ?_, rfl, rfl⟩
      have hkl : k ≠ l := by rintro rfl; rw [hO] at e; cases e
      show (if k = l then none else M4.O k) = _
      rw [if_neg hkl]
      refine k1.O k o (?_ : (if k = l then _ else M2.O k) = _)
      rw [if_neg hkl]
      exact h1.O k o (by show O1 k = _; rw [hO1]; exact (if_neg hkl).trans e)
    · obtain ⟨r, hr⟩ := hI.rnd l' e
      have hkl : l' ≠ l := by rintro rfl; rw [hO] at hr; cases hr
      refine ⟨hkl, r, k1.O l' _ (?_ : (if l' = l then _ else M2.O l') = _)⟩
      rw [if_neg hkl]
      exact h1.O l' _ (by show O1 l' = _; rw [hO1]; exact (if_neg hkl).trans hr)
    · rw [hb]; exact .bool _
  cases e with
  | normal => exact fin none true rfl k4
  | ret => exact fin (some .ret) false rfl k4
  | exit i => exact fin (some (.exit i)) false rfl k4
  | goto i => exact fin (some (.goto i)) false rfl k4
  | panic c => exact k4.elim
  | outgrown => exact k4.elim

theorem evalOp_sound (hI : Inv B w0 M st w) (hE : RepE M n env a) (o : Oper) (h : resK P (evalOp P env.op o.op) st K) : Out P B w0 M st w K ((execOp a.eval o).run P w) := by
  obtain ⟨dst, op, ty, pos, after, guard⟩ := o
  dsimp only at h
  cases op
  case move x => exact ⟨M, _, st, .refl M, hI, hE.op x, h⟩
  case assign x => exact ⟨M, _, st, .refl M, hI, hE.op x, h⟩
  case pick c p q =>
    unfold evalOp at h
    have hc := hE.op c
    cases hcv : env.op c <;> simp only [hcv] at h <;> try exact h.elim
    rename_i b
    rw [hcv] at hc
    have hcv' : a.eval c = .bool b := by generalize a.eval c = z at *; cases hc; rfl
    have hrun : ∀ b, a.eval c = .bool b → (execOp a.eval ⟨dst, .pick c p q, ty, pos, after, guard⟩).run P w = .ok (.value (if b then a.eval p else a.eval q)) w := by
      intro b hb
      simp [execOp, hb, asBool]
    rw [hrun b hcv']
    cases b
    · exact ⟨M, _, st, .refl M, hI, hE.op q, h⟩
    · exact ⟨M, _, st, .refl M, hI, hE.op p, h⟩
  case alloc t =>
    unfold evalOp at h
    cases ht : tiOf P t with
    | none => simp only [ht] at h; exact h.elim
    | some i =>
      simp only [ht] at h
      obtain ⟨z, hz, hr⟩ := rep_zero (P := P) (w := w) ht M
      have := sound_new (P := P) hI hr h
      have e : (execOp a.eval ⟨dst, .alloc t, ty, pos, after, guard⟩).run P w = ((do pure (.value (.pointer (some (← newRow t z.cells)))) : Sem Next).run P w) := by
        simp [execOp, Instr.alloc, hz, newVar]
      rw [e]; exact this
  case box t x =>
    unfold evalOp at h
    cases hc : (env.op x).cells? with
    | none => simp only [hc] at h; exact h.elim
    | some cs =>
      simp only [hc] at h
      have := sound_new (P := P) hI ((hE.op x).cells hc) h
      have e : (execOp a.eval ⟨dst, .box t x, ty, pos, after, guard⟩).run P w = ((do pure (.value (.pointer (some (← newRow t (a.eval x).cells)))) : Sem Next).run P w) := by
        simp [execOp, Instr.box, newVar]
      rw [e]; exact this
  case build t parts =>
    unfold evalOp at h
    cases ht : tiOf P t with
    | none => simp only [ht] at h; exact h.elim
    | some i =>
      simp only [ht] at h
      cases hk : i.k <;> simp only [hk] at h <;> try exact h.elim
      rename_i fs
      by_cases hall : hasAll P fs = true
      · rw [if_pos hall] at h
        cases hf : fillAV (placeS P fs) i.zero (parts.toList.map fun x => (x.1, env.op x.2)) with
        | none => simp only [hf] at h; exact h.elim
        | some cs =>
          simp only [hf] at h
          obtain ⟨r, hr1, hr2⟩ := sound_build (w := w) hE ht hk hall hf
          exact out_of_val hI ⟨r, _, hr1, hr2, h⟩
      · rw [if_neg hall] at h; exact h.elim
  case buildSlice t len parts =>
    unfold evalOp at h
    cases ht : tiOf P t with
    | none => simp only [ht] at h; exact h.elim
    | some i =>
      simp only [ht] at h
      cases hk : i.k <;> simp only [hk] at h <;> try exact h.elim
      rename_i e
      cases he : tiOf P e with
      | none => simp only [he] at h; exact h.elim
      | some ie =>
        simp only [he] at h
        by_cases hc : len * ie.size ≤ 16777216 ∧ 0 < ie.size ∧ ie.zero.length = ie.size ∧ len ≤ 16777216
        · rw [if_pos hc] at h
          cases hf : fillAV (fun j => some (j * ie.size, ie.size)) ((List.replicate len ie.zero).flatten) (parts.toList.map fun x => (x.1, env.op x.2)) with
          | none => simp only [hf] at h; exact h.elim
          | some flat =>
            simp only [hf] at h
            obtain ⟨d, inf, z0, h1, h2, h3, h4, h5, h6, h7⟩ := tiOf_some ht
            rw [hk] at h4
            cases d <;> simp [tkOf] at h4
            rw [h4] at h1
            obtain ⟨z, hz, hzr⟩ := rep_zero (P := P) (w := w) he M
            have hzs : z.cells.size = ie.size := by rw [hzr.1, hc.2.2.1]
            have hzc := zeros_cells (M := M) z.cells len (by omega) ie.zero hzr
            rw [hzs] at hzc
            have hfl : flat.length = len * ie.size := by
              have key : ∀ (ps : List (Nat × AV)) (cs out : List AV), fillAV (fun j => some (j * ie.size, ie.size)) cs ps = some out → out.length = cs.length := by
                intro ps
                induction ps with
                | nil => intro cs out h; simp [fillAV] at h; rw [h]
                | cons p ps ih =>
                  intro cs out h
                  obtain ⟨j, v⟩ := p
                  unfold fillAV at h
                  cases hv : v.cells? with
                  | none => simp [hv] at h
                  | some vc =>
                    simp only [hv] at h
                    split at h
                    · rw [ih _ _ h, length_spliceL]
                    · cases h
              rw [key _ _ _ hf, List.length_flatten, List.map_replicate, List.sum_replicate_nat, hc.2.2.1]
            obtain ⟨arr', hfill, hr⟩ := fill_rep (fun j => some (j * ie.size, ie.size)) (parts.toList.map fun x => (x.1, env.op x.2)) (parts.map fun x => (x.1, a.eval x.2)).toList _ _ flat hzc (by simp [Function.comp_def])
              (fun j p q hp hq => by
                simp only [List.getElem?_map, Array.toList_map, Array.getElem?_toList] at hp hq
                cases hpj : parts[j]? with
                | none => simp [hpj] at hp
                | some pp => simp [hpj] at hp hq; subst hp hq; exact hE.op pp.2) hf
            obtain ⟨M', hle, hI', hrep⟩ := inv_lit hI e hr ie.size len hc.2.1 hfl (by unfold maxLen; omega)
            have hrun : (Instr.buildSlice t len (parts.map fun x => (x.1, a.eval x.2))).run P w = .ok (.slice (some ⟨w.heap.size, 0, none⟩) len len) (w.alloc (.cells arr' e (0, 0))) := by
              have hgt : ¬ (2 ^ 24 < len * ie.size) := by omega
              by_cases h0 : len * ie.size = 0
              · have hl0 : len = 0 := by rcases Nat.mul_eq_zero.1 h0 with h | h <;> omega
                subst hl0
                have hr0 : ∀ f : Nat → Value, (Array.range 0).map f = #[] := fun f => by simp
                have hfill' := hfill
                rw [Nat.zero_mul, hr0, Array.toList_map] at hfill'
                simp [Instr.buildSlice, run_underlying h1, run_sizeOf' he, run_newRow, hr0, hfill']
              · have : (zeroValue e).run P w = .ok z w := hz
                have hne : ¬ (len * ie.size = 0) := h0
                have hl : ¬ len = 0 := fun e => by subst e; simp at h0
                have hs : ¬ ie.size = 0 := by omega
                simp only [Instr.buildSlice, Sem.run_bind, run_underlying h1, Result.andThen_ok, run_sizeOf' he, gt_iff_lt, hgt, if_false, h0, Sem.run_pure, hz]
                rw [hzs, hfill]
                simp [run_newRow]
            simp only [execOp, Sem.run_bind, hrun, Result.andThen_ok, Sem.run_pure]
            exact ⟨M', _, st, hle, hI', hrep, h⟩
        · rw [if_neg hc] at h; exact h.elim
  case load t x =>
    unfold evalOp at h
    cases ht : tiOf P t with
    | none => simp only [ht] at h; exact h.elim
    | some i =>
      simp only [ht] at h
      exact out_of_val hI (sound_load hI (hE.op x) ht h)
  case store t x v =>
    unfold evalOp at h
    cases ht : tiOf P t with
    | none => simp only [ht] at h; exact h.elim
    | some i =>
      simp only [ht] at h
      obtain ⟨w', st', h1, h2, h3⟩ := sound_store hI (hE.op x) (hE.op v) ht h
      simp only [execOp, Sem.run_bind, h1, Result.andThen_ok, Sem.run_pure]
      exact ⟨M, st', .refl M, h2, h3⟩
  case fieldAddr s x f =>
    unfold evalOp at h
    cases hs : tiOf P s with
    | none => simp only [hs] at h; exact h.elim
    | some i =>
      simp only [hs] at h
      cases hk : i.k <;> simp only [hk] at h <;> try exact h.elim
      rename_i fs
      cases hf : fs[f]? with
      | none => simp only [hf] at h; exact h.elim
      | some p =>
        obtain ⟨off, ft⟩ := p
        simp only [hf] at h
        cases hft : tiOf P ft with
        | none => simp only [hft] at h; exact h.elim
        | some fi =>
          simp only [hft] at h
          by_cases h0 : fi.size = 0
          · rw [if_pos h0] at h; exact h.elim
          · rw [if_neg h0] at h
            exact out_of_val hI (sound_fieldAddr (hE.op x) hs hk hf hft h0 h)
  case field s x f =>
    unfold evalOp at h
    cases hs : tiOf P s with
    | none => simp only [hs] at h; exact h.elim
    | some i =>
      simp only [hs] at h
      cases hk : i.k <;> simp only [hk] at h <;> try exact h.elim
      rename_i fs
      cases hf : fs[f]? with
      | none => simp only [hf] at h; exact h.elim
      | some p =>
        obtain ⟨off, ft⟩ := p
        simp only [hf] at h
        cases hft : tiOf P ft with
        | none => simp only [hft] at h; exact h.elim
        | some fi =>
          simp only [hft] at h
          refine out_of_val hI (sound_field (hE.op x) hs hk hf hft ?_)
          cases hX : env.op x <;> simp only [hX] at h ⊢ <;> exact h
  case indexAddr t x ix =>
    unfold evalOp at h
    exact out_of_val hI (sound_indexAddr (hE.op x) (hE.op ix) h)
  case index t x ix =>
    unfold evalOp at h
    cases ht : tiOf P t with
    | none => simp only [ht] at h; exact h.elim
    | some i =>
      simp only [ht] at h
      have hir := hE.op ix
      cases hix : env.op ix <;> simp only [hix] at h <;> try exact h.elim
      rename_i kk m
      rw [hix] at hir
      have hiv : a.eval ix = .int kk m := by generalize a.eval ix = z at *; cases hir; rfl
      cases hk : i.k <;> simp only [hk] at h <;> try exact h.elim
      have hxr := hE.op x
      cases hx : env.op x <;> simp only [hx] at h <;> try exact h.elim
      rename_i s
      rw [hx] at hxr
      have hxv : a.eval x = .string s := by generalize a.eval x = z at *; cases hxr; rfl
      by_cases hc : 0 ≤ m ∧ m < s.size
      · rw [if_pos hc] at h
        obtain ⟨d, inf, z0, h1, h2, h3, h4, h5, h6, h7⟩ := tiOf_some ht
        rw [hk] at h4
        cases d <;> simp [tkOf] at h4
        have hm : m.toNat < s.size := by omega
        have hd : m.toNat < s.data.size := hm
        refine out_of_val hI ⟨_, _, ?_, .int _ _, h⟩
        rw [hiv, hxv]
        have e1 : s[m.toNat]? = some (s.data.getD m.toNat 0) := by
          rw [Array.getD_eq_getD_getElem?, Array.getElem?_eq_getElem hd, Option.getD_some]
          exact getElem?_pos s m.toNat hm
        simp [Instr.index, asIntOf, run_underlying h1, hc.1, e1]
      · rw [if_neg hc] at h; exact h.elim
  case binOp bop t x y yt =>
    unfold evalOp at h
    exact out_of_val hI (sound_bin (hE.op x) (hE.op y) x y h)
  case unOp uop t x =>
    unfold evalOp at h
    have hxr := hE.op x
    cases uop <;> simp only at h <;> try exact h.elim
    all_goals (cases hx : env.op x <;> simp only [hx] at h <;> try exact h.elim)
    all_goals (rw [hx] at hxr; generalize hz : a.eval x = z at hxr; cases hxr; refine out_of_val hI (s := Op.unary _ (a.eval x)) ⟨_, _, ?_, by constructor, h⟩; rw [hz]; simp [Op.unary, Op.intArith])
  case extract x j =>
    unfold evalOp at h
    have hxr := hE.op x
    cases hx : env.op x <;> simp only [hx] at h <;> try exact h.elim
    rename_i vs
    rw [hx] at hxr
    by_cases hc : j < vs.length
    · rw [if_pos hc] at h
      generalize hz : a.eval x = z at hxr
      cases hxr
      rename_i us hs hr
      have hj : j < us.size := by omega
      have := hr j
      rw [Array.getD_eq_getD_getElem?, Array.getElem?_eq_getElem hj, Option.getD_some] at this
      refine out_of_val hI (s := Instr.extract (a.eval x) j) ⟨_, _, ?_, this, h⟩
      rw [hz]; simp [Instr.extract, hj]
    · rw [if_neg hc] at h; exact h.elim
  case makeFunc fn first captured =>
    unfold evalOp at h
    cases fn <;> simp only at h <;> try exact h.elim
    rename_i f
    by_cases hc : first = #[]
    · rw [if_pos hc] at h
      subst hc
      have := reps_map hE captured
      refine out_of_val hI (s := Instr.makeFunc (.func f) ((#[] : Array Operand).map a.eval) (captured.map a.eval)) ⟨_, _, rfl, ?_, h⟩
      simpa using RepV.fn f _ _ this.1 this.2
    · rw [if_neg hc] at h; exact h.elim
  case slice t x lo hi mx =>
    unfold evalOp at h
    cases ht : tiOf P t with
    | none => simp only [ht] at h; exact h.elim
    | some i =>
      simp only [ht] at h
      exact out_of_val hI (sound_slice (hE.op x) hE lo hi mx ht h)
  case call c =>
    obtain ⟨callee, args, argTypes⟩ := c
    unfold evalOp at h
    have hargs := reps_map hE args
    cases callee with
    | invoke r m => exact h.elim
    | value f =>
      simp only at h
      have hfr := hE.op f
      cases hf : env.op f <;> simp only [hf] at h <;> try exact h.elim
      case yld id =>
        rw [hf] at hfr
        generalize hz : a.eval f = z at hfr
        cases hfr
        have hrun : (execOp a.eval ⟨dst, .call ⟨.value f, args, argTypes⟩, ty, pos, after, guard⟩).run P w = (Instr.yield (M.pos id) (args.map a.eval)).run P w := by
          simp only [execOp, resolve, hz, Deferred.ofValue, Sem.run_bind, Sem.run_pure, Result.andThen_ok, Array.empty_append]
          rfl
        rw [hrun]
        exact sound_yield hI hargs h
      rename_i g caps
      rw [hf] at hfr
      generalize hz : a.eval f = z at hfr
      cases hfr
      rename_i cs hs hr
      have hrun : (execOp a.eval ⟨dst, .call ⟨.value f, args, argTypes⟩, ty, pos, after, guard⟩).run P w = (callFunc g (args.map a.eval ++ cs)).run P w := by
        simp only [execOp, resolve, hz, Deferred.ofValue, Sem.run_bind, Sem.run_pure, Result.andThen_ok, Array.empty_append]
        rfl
      rw [hrun]
      exact sound_call (hargs.append ⟨hs, hr⟩) h
    | builtin b =>
      simp only at h
      cases b <;> simp only at h <;> try exact h.elim
      case len =>
        split at h
        · rename_i L sz xs o t eL eT
          have hat : args.toList.length = 1 := by have := congrArg List.length eL; simpa using this
          obtain ⟨x0, hx0⟩ := List.length_eq_one_iff.1 hat
          have hx0' : args = #[x0] := by apply Array.ext'; simpa using hx0
          have htt : argTypes = #[t] := by apply Array.ext'; simpa using eT
          subst hx0' htt
          simp only [List.map_cons, List.map_nil, List.cons.injEq, and_true] at eL
          have hxr := hE.op x0
          rw [eL] at hxr
          cases ht : tiOf P t with
          | none => simp only [ht] at h; exact h.elim
          | some i =>
            simp only [ht] at h
            cases hk : i.k <;> simp only [hk] at h <;> try exact h.elim
            obtain ⟨d, inf, z0, h1, h2, h3, h4, h5, h6, h7⟩ := tiOf_some ht
            rw [hk] at h4
            cases d <;> simp [tkOf] at h4
            have hsh : ∃ base cap, a.eval x0 = .slice base xs.length cap := by
              generalize a.eval x0 = z at hxr
              cases hxr with
              | nils _ _ _ => exact ⟨none, 0, rfl⟩
              | list _ _ _ ad cap g hF hg hl hc hm hoo => exact ⟨_, cap, rfl⟩
            obtain ⟨base, cap, hev⟩ := hsh
            have hrun : (execOp a.eval ⟨dst, .call ⟨.builtin .len, #[x0], #[t]⟩, ty, pos, after, guard⟩).run P w = .ok (.value (.int .i64 xs.length)) w := by
              simp [execOp, resolve, invoke, builtin, Builtin.len_, hev, run_underlying h1, goInt]
            rw [hrun]
            exact ⟨M, _, st, .refl M, hI, .int _ _, h⟩
        · rename_i L s t eL eT
          have hat : args.toList.length = 1 := by have := congrArg List.length eL; simpa using this
          obtain ⟨x0, hx0⟩ := List.length_eq_one_iff.1 hat
          have hx0' : args = #[x0] := by apply Array.ext'; simpa using hx0
          have htt : argTypes = #[t] := by apply Array.ext'; simpa using eT
          subst hx0' htt
          simp only [List.map_cons, List.map_nil, List.cons.injEq, and_true] at eL
          have hxr := hE.op x0
          rw [eL] at hxr
          cases ht : tiOf P t with
          | none => simp only [ht] at h; exact h.elim
          | some i =>
            simp only [ht] at h
            cases hk : i.k <;> simp only [hk] at h <;> try exact h.elim
            obtain ⟨d, inf, z0, h1, h2, h3, h4, h5, h6, h7⟩ := tiOf_some ht
            rw [hk] at h4
            cases d <;> simp [tkOf] at h4
            have hev : a.eval x0 = .string s := by generalize a.eval x0 = z at hxr; cases hxr; rfl
            have hrun : (execOp a.eval ⟨dst, .call ⟨.builtin .len, #[x0], #[t]⟩, ty, pos, after, guard⟩).run P w = .ok (.value (.int .i64 s.size)) w := by
              simp [execOp, resolve, invoke, builtin, Builtin.len_, hev, run_underlying h1, goInt]
            rw [hrun]
            exact ⟨M, _, st, .refl M, hI, .int _ _, h⟩
        · rename_i L id off sz m c t eL eT
          have hat : args.toList.length = 1 := by have := congrArg List.length eL; simpa using this
          obtain ⟨x0, hx0⟩ := List.length_eq_one_iff.1 hat
          have hx0' : args = #[x0] := by apply Array.ext'; simpa using hx0
          have htt : argTypes = #[t] := by apply Array.ext'; simpa using eT
          subst hx0' htt
          simp only [List.map_cons, List.map_nil, List.cons.injEq, and_true] at eL
          have hxr := hE.op x0
          rw [eL] at hxr
          cases ht : tiOf P t with
          | none => simp only [ht] at h; exact h.elim
          | some i =>
            simp only [ht] at h
            cases hk : i.k <;> simp only [hk] at h <;> try exact h.elim
            obtain ⟨d, inf, z0, h1, h2, h3, h4, h5, h6, h7⟩ := tiOf_some ht
            rw [hk] at h4
            cases d <;> simp [tkOf] at h4
            have hev : ∃ b, a.eval x0 = .slice b m c := by generalize a.eval x0 = z at hxr; cases hxr <;> exact ⟨_, rfl⟩
            obtain ⟨b, hev⟩ := hev
            have hrun : (execOp a.eval ⟨dst, .call ⟨.builtin .len, #[x0], #[t]⟩, ty, pos, after, guard⟩).run P w = .ok (.value (.int .i64 m)) w := by
              simp [execOp, resolve, invoke, builtin, Builtin.len_, hev, run_underlying h1, goInt]
            rw [hrun]
            exact ⟨M, _, st, .refl M, hI, .int _ _, h⟩
        · rename_i L id t eL eT
          have hat : args.toList.length = 1 := by have := congrArg List.length eL; simpa using this
          obtain ⟨x0, hx0⟩ := List.length_eq_one_iff.1 hat
          have hx0' : args = #[x0] := by apply Array.ext'; simpa using hx0
          have htt : argTypes = #[t] := by apply Array.ext'; simpa using eT
          subst hx0' htt
          simp only [List.map_cons, List.map_nil, List.cons.injEq, and_true] at eL
          have hxr := hE.op x0
          rw [eL] at hxr
          cases ht : tiOf P t with
          | none => simp only [ht] at h; exact h.elim
          | some i =>
            simp only [ht] at h
            cases hk : i.k <;> simp only [hk] at h <;> try exact h.elim
            obtain ⟨d, inf, z0, h1, h2, h3, h4, h5, h6, h7⟩ := tiOf_some ht
            rw [hk] at h4
            cases d <;> simp [tkOf] at h4
            have hev : a.eval x0 = .map (some (M.pos id)) := by generalize a.eval x0 = z at hxr; cases hxr; rfl
            unfold resK at h
            simp only at h
            split at h
            case h_2 => exact h.elim
            rename_i es clock hs
            obtain ⟨hO, arr, a1, a2, a3⟩ := map_of hI hs
            have hrun : (execOp a.eval ⟨dst, .call ⟨.builtin .len, #[x0], #[t]⟩, ty, pos, after, guard⟩).run P w = .ok (.value (.int .i64 es.length)) w := by
              have a2' : arr.size = es.length := by simpa using a2
              simp [execOp, resolve, invoke, builtin, Builtin.len_, hev, run_underlying h1, goInt, MapKept.run_getObj_map a1, a2']
            rw [hrun]
            exact ⟨M, _, st, .refl M, hI, .int _ _, h⟩
        · exact h.elim
      case clear =>
        split at h
        · rename_i L id off sz m c t eL eT
          have hat : args.toList.length = 1 := by have := congrArg List.length eL; simpa using this
          obtain ⟨x0, hx0⟩ := List.length_eq_one_iff.1 hat
          have hx0' : args = #[x0] := by apply Array.ext'; simpa using hx0
          have htt : argTypes = #[t] := by apply Array.ext'; simpa using eT
          subst hx0' htt
          simp only [List.map_cons, List.map_nil, List.cons.injEq, and_true] at eL
          have hxr := hE.op x0
          rw [eL] at hxr
          cases ht : tiOf P t with
          | none => simp only [ht] at h; exact h.elim
          | some i =>
            simp only [ht] at h
            cases hk : i.k <;> simp only [hk] at h <;> try exact h.elim
            rename_i e
            cases he : tiOf P e with
            | none => simp only [he] at h; exact h.elim
            | some ie =>
              simp only [he] at h
              split at h
              · rename_i hc
                obtain ⟨c1, c2, c3⟩ := hc
                subst c1
                obtain ⟨d, inf, z0, h1, h2, h3, h4, h5, h6, h7⟩ := tiOf_some ht
                rw [hk] at h4
                cases d <;> simp [tkOf] at h4
                rw [h4] at h1
                obtain ⟨w', st', hrun, hI', hK⟩ := sound_clr (ty := ty) hI h1 he hxr c2 c3 h
                have hrun' : (execOp a.eval ⟨dst, .call ⟨.builtin .clear, #[x0], #[t]⟩, ty, pos, after, guard⟩).run P w = .ok (.value (.tuple #[])) w' := by
                  simp only [execOp, resolve, invoke, builtin, Sem.run_bind, Sem.run_pure, Result.andThen_ok]
                  have : (#[x0] : Array Operand).map a.eval = #[a.eval x0] := by simp
                  rw [this, hrun]; rfl
                rw [hrun']
                exact ⟨M, _, st', .refl M, hI', .tup [] #[] rfl (fun _ => .undef _), hK⟩
              · exact h.elim
        · exact h.elim
      case delete =>
        split at h
        · rename_i L id key t t' eL eT
          have hat : args.toList.length = 2 := by have := congrArg List.length eL; simpa using this
          obtain ⟨x0, x1, hx0⟩ : ∃ x0 x1, args.toList = [x0, x1] := by
            match hh : args.toList, hat with
            | [x0, x1], _ => exact ⟨x0, x1, rfl⟩
          have hx0' : args = #[x0, x1] := by apply Array.ext'; simpa using hx0
          have htt : argTypes = #[t, t'] := by apply Array.ext'; simpa using eT
          subst hx0' htt
          simp only [List.map_cons, List.map_nil, List.cons.injEq, and_true] at eL
          have hxr := hE.op x0
          have hyr := hE.op x1
          rw [eL.1] at hxr
          rw [eL.2] at hyr
          cases ht : tiOf P t with
          | none => simp only [ht] at h; exact h.elim
          | some i =>
            simp only [ht] at h
            cases hk : i.k <;> simp only [hk] at h <;> try exact h.elim
            rename_i kt vt
            cases hsk : scalarK P kt with
            | none => simp only [hsk] at h; exact h.elim
            | some k =>
              simp only [hsk] at h
              obtain ⟨d, inf, z0, h1, h2, h3, h4, h5, h6, h7⟩ := tiOf_some ht
              rw [hk] at h4
              cases d <;> simp [tkOf] at h4
              rw [h4.1, h4.2] at h1
              obtain ⟨w', st', hrun, hI', hK⟩ := sound_mdel (t' := t') (ty := ty) hI h1 hsk hxr hyr h
              have hrun' : (execOp a.eval ⟨dst, .call ⟨.builtin .delete, #[x0, x1], #[t, t']⟩, ty, pos, after, guard⟩).run P w = .ok (.value (.tuple #[])) w' := by
                simp only [execOp, resolve, invoke, builtin, Sem.run_bind, Sem.run_pure, Result.andThen_ok]
                have : (#[x0, x1] : Array Operand).map a.eval = #[a.eval x0, a.eval x1] := by simp
                rw [this, hrun]; rfl
              rw [hrun']
              exact ⟨M, _, st', .refl M, hI', .tup [] #[] rfl (fun _ => .undef _), hK⟩
        · exact h.elim
      case append =>
        split at h
        · rename_i L sz xs o sz' ys oy t t' eL eT
          have hat : args.toList.length = 2 := by have := congrArg List.length eL; simpa using this
          obtain ⟨x0, x1, hx0⟩ : ∃ x0 x1, args.toList = [x0, x1] := by
            match hh : args.toList, hat with
            | [x0, x1], _ => exact ⟨x0, x1, rfl⟩
          have hx0' : args = #[x0, x1] := by apply Array.ext'; simpa using hx0
          have htt : argTypes = #[t, t'] := by apply Array.ext'; simpa using eT
          subst hx0' htt
          simp only [List.map_cons, List.map_nil, List.cons.injEq, and_true] at eL
          have hxr := hE.op x0
          have hyr := hE.op x1
          rw [eL.1] at hxr
          rw [eL.2] at hyr
          cases ht : tiOf P t with
          | none => simp only [ht] at h; exact h.elim
          | some i =>
            cases ht' : tiOf P t' with
            | none => simp only [ht, ht'] at h; exact h.elim
            | some i' =>
              simp only [ht, ht'] at h
              cases hk : i.k <;> simp only [hk] at h <;> try exact h.elim
              rename_i e
              cases hk' : i'.k <;> simp only [hk'] at h <;> try exact h.elim
              rename_i e'
              cases he : tiOf P e with
              | none => simp only [he] at h; exact h.elim
              | some ie =>
                simp only [he] at h
                split at h
                · rename_i hc
                  obtain ⟨c1, c2, c3, c4, c5, c6, c7⟩ := hc
                  obtain ⟨r, w', M', z, st', hrun, hle, hI', hrep, hz⟩ : ∃ r w' M' z st', (Builtin.append_ #[t, t'] ty #[a.eval x0, a.eval x1]).run P w = .ok r w' ∧ M.le M' ∧ Inv B w0 M' st' w' ∧ RepV M' z r ∧ K z st' := by
                    rcases h with ⟨st0, ho, hK⟩ | ⟨e1, e2, k1, k2⟩
                    · exact sound_app (ty := ty) hI ⟨i, ht, hk⟩ ⟨i', e', ht', hk'⟩ he hxr hyr c1 c2 c3 c4 c5 c6 c7 ho hK
                    · subst e1 e2
                      exact sound_app0' (ty := ty) hI ⟨i, ht, hk⟩ ⟨i', e', ht', hk'⟩ he hxr hyr c2 c4 (by simpa using c6) (by simpa using c7) (nil_rep M _) k1 k2
                  have hrun' : (execOp a.eval ⟨dst, .call ⟨.builtin .append, #[x0, x1], #[t, t']⟩, ty, pos, after, guard⟩).run P w = .ok (.value r) w' := by
                    simp only [execOp, resolve, invoke, builtin, Sem.run_bind, Sem.run_pure, Result.andThen_ok]
                    have : (#[x0, x1] : Array Operand).map a.eval = #[a.eval x0, a.eval x1] := by simp
                    rw [this, hrun]; rfl
                  rw [hrun']
                  exact ⟨M', z, st', hle, hI', hrep, hz⟩
                · exact h.elim
        · rename_i L id off sz m c sz' ys oy t t' eL eT
          have hat : args.toList.length = 2 := by have := congrArg List.length eL; simpa using this
          obtain ⟨x0, x1, hx0⟩ : ∃ x0 x1, args.toList = [x0, x1] := by
            match hh : args.toList, hat with
            | [x0, x1], _ => exact ⟨x0, x1, rfl⟩
          have hx0' : args = #[x0, x1] := by apply Array.ext'; simpa using hx0
          have htt : argTypes = #[t, t'] := by apply Array.ext'; simpa using eT
          subst hx0' htt
          simp only [List.map_cons, List.map_nil, List.cons.injEq, and_true] at eL
          have hxr := hE.op x0
          have hyr := hE.op x1
          rw [eL.1] at hxr
          rw [eL.2] at hyr
          cases ht : tiOf P t with
          | none => simp only [ht] at h; exact h.elim
          | some i =>
            cases ht' : tiOf P t' with
            | none => simp only [ht, ht'] at h; exact h.elim
            | some i' =>
              simp only [ht, ht'] at h
              cases hk : i.k <;> simp only [hk] at h <;> try exact h.elim
              rename_i e
              cases hk' : i'.k <;> simp only [hk'] at h <;> try exact h.elim
              rename_i e'
              cases he : tiOf P e with
              | none => simp only [he] at h; exact h.elim
              | some ie =>
                simp only [he] at h
                split at h
                · rename_i hc
                  obtain ⟨c1, c2, c3, c4, c5, c6, c7⟩ := hc
                  subst c3
                  obtain ⟨r, w', M', z, st', hrun, hle, hI', hrep, hz⟩ := sound_appr (ty := ty) hI ⟨i, ht, hk⟩ ⟨i', e', ht', hk'⟩ he hxr hyr c1 c2 c4 c5 c6 c7 h
                  have hrun' : (execOp a.eval ⟨dst, .call ⟨.builtin .append, #[x0, x1], #[t, t']⟩, ty, pos, after, guard⟩).run P w = .ok (.value r) w' := by
                    simp only [execOp, resolve, invoke, builtin, Sem.run_bind, Sem.run_pure, Result.andThen_ok]
                    have : (#[x0, x1] : Array Operand).map a.eval = #[a.eval x0, a.eval x1] := by simp
                    rw [this, hrun]; rfl
                  rw [hrun']
                  exact ⟨M', z, st', hle, hI', hrep, hz⟩
                · exact h.elim
        · exact h.elim
  case convert src dst' x =>
    unfold evalOp at h
    have hxr := hE.op x
    cases hs : tiOf P src with
    | none => simp only [hs] at h; exact h.elim
    | some is =>
      cases hd : tiOf P dst' with
      | none => simp only [hs, hd] at h; exact h.elim
      | some i =>
        simp only [hs, hd] at h
        cases hk : i.k <;> simp only [hk] at h <;> try exact h.elim
        rename_i kk
        cases hx : env.op x <;> simp only [hx] at h <;> try exact h.elim
        rename_i k' n'
        rw [hx] at hxr
        generalize hz : a.eval x = z at hxr
        cases hxr
        obtain ⟨ds, _, _, hs1, _⟩ := tiOf_some hs
        obtain ⟨d, inf, z0, h1, h2, h3, h4, h5, h6, h7⟩ := tiOf_some hd
        rw [hk] at h4
        cases d <;> simp [tkOf] at h4
        rw [h4] at h1
        refine out_of_val hI (s := convert src dst' (a.eval x)) ⟨.int kk (kk.wrap n'), _, ?_, .int _ _, h⟩
        rw [hz]
        simp [convert, run_underlying hs1, run_underlying h1, Conv.intToInt]
  case makeMap t r =>
    unfold evalOp at h
    cases ht : tiOf P t with
    | none => simp only [ht] at h; exact h.elim
    | some i =>
      simp only [ht] at h
      cases hk : i.k <;> simp only [hk] at h <;> try exact h.elim
      obtain ⟨d, inf, z0, h1, h2, h3, h4, h5, h6, h7⟩ := tiOf_some ht
      rw [hk] at h4
      cases d <;> simp [tkOf] at h4
      have fin : ∀ x : Option Value, (x = none ∨ ∃ kk m, x = some (.int kk m)) → (Instr.makeMap t x).run P w = .ok (.map (some w.heap.size)) (w.alloc (.map #[] 0)) := by
        rintro x (rfl | ⟨kk, m, rfl⟩)
        · simp only [Instr.makeMap, Sem.run_bind, Sem.run_pure, Result.andThen_ok]; rfl
        · simp only [Instr.makeMap, Sem.run_bind, run_underlying h1, asInt, Sem.run_pure, Result.andThen_ok]; rfl
      have fin2 : ∀ x : Option Value, (x = none ∨ ∃ kk m, x = some (.int kk m)) → resK P .mnew st K → Out P B w0 M st w K ((do pure (.value (← Instr.makeMap t x)) : Sem Next).run P w) := by
        intro x hx hm
        obtain ⟨M', v, st', k1, k2, k3, k4⟩ := sound_mnew hI hm
        simp only [Sem.run_bind, fin x hx, Result.andThen_ok, Sem.run_pure]
        exact ⟨M', v, st', k1, k2, k3, k4⟩
      cases r with
      | none => exact fin2 none (.inl rfl) h
      | some x =>
        simp only at h
        have hr := hE.op x
        cases hx : env.op x <;> simp only [hx] at h <;> try exact h.elim
        rw [hx] at hr
        refine fin2 (some (a.eval x)) (.inr ?_) h
        generalize a.eval x = z at hr
        cases hr
        exact ⟨_, _, rfl⟩
  case lookup t x ix ok =>
    unfold evalOp at h
    cases ht : tiOf P t with
    | none => simp only [ht] at h; exact h.elim
    | some i =>
      simp only [ht] at h
      have hxr := hE.op x
      cases hk : i.k <;> simp only [hk] at h <;> try exact h.elim
      rename_i kt vt
      cases hx : env.op x <;> simp only [hx] at h <;> try exact h.elim
      rw [hx] at hxr
      cases hsk : scalarK P kt with
      | none => simp only [hsk] at h; exact h.elim
      | some k =>
        cases hz : zvOf P vt with
        | none => simp only [hsk, hz] at h; exact h.elim
        | some z =>
          simp only [hsk, hz] at h
          obtain ⟨d, inf, z0, h1, h2, h3, h4, h5, h6, h7⟩ := tiOf_some ht
          rw [hk] at h4
          cases d <;> simp [tkOf] at h4
          rw [h4.1, h4.2] at h1
          obtain ⟨r, v, hrun, hr, hK⟩ := sound_mget hI h1 hsk hz hxr (hE.op ix) ok h
          exact out_of_val hI ⟨r, v, hrun, hr, hK⟩
  case mapUpdate t m key v =>
    unfold evalOp at h
    cases ht : tiOf P t with
    | none => simp only [ht] at h; exact h.elim
    | some i =>
      simp only [ht] at h
      have hxr := hE.op m
      cases hk : i.k <;> simp only [hk] at h <;> try exact h.elim
      rename_i kt vt
      cases hx : env.op m <;> simp only [hx] at h <;> try exact h.elim
      rw [hx] at hxr
      cases hsk : scalarK P kt with
      | none => simp only [hsk] at h; exact h.elim
      | some k =>
        simp only [hsk] at h
        obtain ⟨d, inf, z0, h1, h2, h3, h4, h5, h6, h7⟩ := tiOf_some ht
        rw [hk] at h4
        cases d <;> simp [tkOf] at h4
        rw [h4.1, h4.2] at h1
        obtain ⟨w', st', hrun, hI', hK⟩ := sound_mset hI h1 hsk hxr (hE.op key) (hE.op v) h
        simp only [execOp, Sem.run_bind, hrun, Result.andThen_ok, Sem.run_pure]
        exact ⟨M, st', .refl M, hI', hK⟩
  case insert t m key v =>
    unfold evalOp at h
    cases ht : tiOf P t with
    | none => simp only [ht] at h; exact h.elim
    | some i =>
      simp only [ht] at h
      have hxr := hE.op m
      cases hk : i.k <;> simp only [hk] at h <;> try exact h.elim
      rename_i kt vt
      cases hx : env.op m <;> simp only [hx] at h <;> try exact h.elim
      rw [hx] at hxr
      cases hsk : scalarK P kt with
      | none => simp only [hsk] at h; exact h.elim
      | some k =>
        simp only [hsk] at h
        obtain ⟨d, inf, z0, h1, h2, h3, h4, h5, h6, h7⟩ := tiOf_some ht
        rw [hk] at h4
        cases d <;> simp [tkOf] at h4
        rw [h4.1, h4.2] at h1
        obtain ⟨w', st', hrun, hI', hK⟩ := sound_mset hI h1 hsk hxr (hE.op key) (hE.op v) h
        simp only [execOp, Sem.run_bind, hrun, Result.andThen_ok, Sem.run_pure]
        exact ⟨M, st', .refl M, hI', hK⟩
  case range t x =>
    unfold evalOp at h
    cases ht : tiOf P t with
    | none => simp only [ht] at h; exact h.elim
    | some i =>
      simp only [ht] at h
      have hxr := hE.op x
      cases hk : i.k <;> simp only [hk] at h <;> try exact h.elim
      cases hx : env.op x <;> simp only [hx] at h <;> try exact h.elim
      rw [hx] at hxr
      obtain ⟨d, inf, z0, h1, h2, h3, h4, h5, h6, h7⟩ := tiOf_some ht
      rw [hk] at h4
      cases d <;> simp [tkOf] at h4
      obtain ⟨r, w', M', v, st', hrun, k1, k2, k3, k4⟩ := sound_mrange hI h1 hxr h
      simp only [execOp, Sem.run_bind, hrun, Result.andThen_ok, Sem.run_pure]
      exact ⟨M', v, st', k1, k2, k3, k4⟩
  case next it isS =>
    unfold evalOp at h
    have hxr := hE.op it
    cases hx : env.op it <;> simp only [hx] at h <;> try exact h.elim
    rename_i id off
    rw [hx] at hxr
    by_cases hc : isS = false ∧ off = 0
    · rw [if_pos hc] at h
      obtain ⟨rfl, rfl⟩ := hc
      obtain ⟨r, w', v, st', hrun, k2, k3, k4⟩ := sound_mnext (ty := ty) hI hxr h
      simp only [execOp, Sem.run_bind, hrun, Result.andThen_ok, Sem.run_pure]
      exact ⟨M, v, st', .refl M, k2, k3, k4⟩
    · rw [if_neg hc] at h; exact h.elim
  case entry it =>
    unfold evalOp at h
    have hxr := hE.op it
    cases hx : env.op it <;> simp only [hx] at h <;> try exact h.elim
    rename_i id off
    rw [hx] at hxr
    by_cases hc : off = 0
    · rw [if_pos hc] at h
      subst hc
      obtain ⟨r, v, hrun, k3, k4⟩ := sound_mentry hI hxr h
      exact out_of_val hI ⟨r, v, hrun, k3, k4⟩
    · rw [if_neg hc] at h; exact h.elim
  all_goals exact h.elim
end
end Go.Sh

/- Shadow logic, part M: operations that may come in either order. -/
namespace Go.Sh
open Go.RowKit

def PureC (P : Program) (f : FuncId) (args : List AV) (r : AV) : Prop := ∀ st (K : AV → St → Prop), K r st → dcall P f args st K

/-- As resK; a call must be pure. -/
def resKP (P : Program) (rv : AV) (r : ORes) (st : St) (K : AV → St → Prop) : Prop :=
  match r with
  | .call f args => PureC P f args rv ∧ K rv st
  | .yield _ _ => False
  | .app e sz _ xs ys o => ∃ st0, Owns st0 e sz xs.length o st ∧ ∀ o' st', Owns st0 e sz (xs.length + ys.length) o' st' → K (.list sz (xs ++ ys) o') st'
  | .appr _ _ _ _ _ _ _ _ => False
  | .mnew => False
  | .mset _ _ _ _ => False
  | .mdel _ _ _ => False
  | .mrange _ => False
  | .mnext _ => False
  | .mentry _ => False
  | .clr _ _ _ => False
  | r => resK P r st K
theorem resK_of_P {P : Program} {rv : AV} {r : ORes} {st : St} {K : AV → St → Prop} (h : resKP P rv r st K) : resK P r st K := by
  cases r <;> try exact h
  all_goals first | exact h.elim | skip
  · exact .inl h
  · exact h.1 st K h.2
def mapAt : Option AObj → Option (List MEnt)
  | some (.map es _) => some es
  | _ => none
/-- What a look into a map says. -/
def mgetV (k : SK) (key : AV) (ok : Bool) (z : AV) (es : List MEnt) : Option AV := match mfind k key es 0 with
  | some (some (_, v)) => some (if ok then .tup [v, .bool true] else v)
  | some none => some (if ok then .tup [z, .bool false] else z)
  | none => none
def obsV : ORes → St → Option AV
  | .mget id k key ok z, st => (mapAt (st id)).bind (mgetV k key ok z)
  | .mlen id, st => (mapAt (st id)).map fun es => .int .i64 es.length
  | _, _ => none
def isObs : ORes → Bool
  | .mget _ _ _ _ _ | .mlen _ => true
  | _ => false
theorem obs_iff {P : Program} {rv : AV} {r : ORes} {st : St} {K : AV → St → Prop} (hr : isObs r = true) : resKP P rv r st K ↔ ∃ v, obsV r st = some v ∧ K v st := by
  cases r <;> try (cases hr; done)
  · rename_i id k key ok z
    show resK P (.mget id k key ok z) st K ↔ _
    unfold resK obsV
    cases hs : st id with
    | none => simp only [hs]; simp [mapAt]
    | some o =>
      cases o
      case map es c =>
        simp only [hs, mapAt, Option.bind_some, mgetV]
        cases mfind k key es 0 with
        | none => simp
        | some r => cases r <;> simp
      all_goals (simp only [hs]; simp [mapAt])
  · rename_i id
    show resK P (.mlen id) st K ↔ _
    unfold resK obsV
    cases hs : st id with
    | none => simp only [hs]; simp [mapAt]
    | some o => cases o <;> simp only [hs] <;> simp [mapAt]

structure AOp where
  o : Oper
  g : Option (Nat × Bool)
  av : List (TypeId × Operand)

def szOf (P : Program) (t : TypeId) : Nat := match tiOf P t with | some i => i.size | none => 0
def apartAt (P : Program) (ρ : Operand → AV) (p q : TypeId × Operand) : Prop :=
  match ρ p.2, ρ q.2 with
  | .box i a, .box j b => i ≠ j ∨ a + szOf P p.1 ≤ b ∨ b + szOf P q.1 ≤ a
  | .eptr _, _ => True
  | _, .eptr _ => True
  | _, _ => False
def addrOf : Op → Option (TypeId × Operand)
  | .store t a _ => some (t, a)
  | .load t a => some (t, a)
  | _ => none
def dstOk (n : Nat) : Option Nat → Bool
  | none => true
  | some d => decide (d < n)
/-- What the calls of a region return, by where it goes. -/
def crGet : List (Nat × AV) → Option Nat → AV
  | [], _ => .undef
  | _, none => .undef
  | (d, v) :: r, some i => if i = d then v else crGet r (some i)
def guardV (env : Env) : Option (Nat × Bool) → Option Bool
  | none => some true
  | some (s, want) => match env s with
    | .bool b => some (b == want)
    | .tup _ => some false
    | _ => none
def opT (P : Program) (n : Nat) (cr : List (Nat × AV)) (x : AOp) (K : Env → St → Prop) (env : Env) (st : St) : Prop :=
  dstOk n x.o.dst = true ∧ match guardV env x.g with
  | some true => (∀ p ∈ x.av, ∀ q, addrOf x.o.op = some q → apartAt P env.op p q) ∧ resKP P (crGet cr x.o.dst) (evalOp P env.op x.o.op) st (fun v st' => K (env.put x.o.dst v) st')
  | some false => K (env.put x.o.dst (.tup [])) st
  | none => False
def vcT (P : Program) (n : Nat) (cr : List (Nat × AV)) : List AOp → Env → St → (Env → St → Prop) → Prop
  | [], env, st, K => K env st
  | x :: r, env, st, K => opT P n cr x (fun env st => vcT P n cr r env st K) env st

/-- What it looks at. -/
def looks (x : AOp) : List Nat :=
  (match x.g with | some (s, _) => [s] | none => []) ++ (x.o.op.operands.toList.filterMap fun | .tmp t => some t | _ => none) ++ x.av.filterMap fun | (_, .tmp t) => some t | _ => none
inductive Cls where | pure | new | load | store | app
def clsOf : Op → Cls
  | .alloc _ | .box _ _ => .new
  | .load _ _ => .load
  | .store _ _ _ => .store
  | .call ⟨.builtin .append, _, _⟩ => .app
  | _ => .pure
def opdEq : Operand → Operand → Bool
  | .tmp a, .tmp b => a == b
  | _, _ => false
def avHas (av : List (TypeId × Operand)) (p : TypeId × Operand) : Bool := av.any fun q => q.1 == p.1 && opdEq q.2 p.2
/-- x stands ahead of y in the text: may y come first? -/
def indep (x y : AOp) : Bool :=
  (match x.o.dst with | some d => !(looks y).contains d && (y.o.dst != some d) | none => true) &&
  (match y.o.dst with | some d => !(looks x).contains d | none => true) &&
  (match clsOf x.o.op, clsOf y.o.op with
    | .app, .app => false
    | .new, .app => false
    | .store, .store | .store, .load | .load, .store => match addrOf x.o.op with | some p => avHas y.av p | none => false
    | _, _ => true)
/-- What it must be apart from, as far as some ask it. -/
def cutAv (x : AOp) (s : List AOp) : AOp := { x with av := x.av.filter fun p => s.any fun z => match addrOf z.o.op with | some q => p.1 == q.1 && opdEq p.2 q.2 | none => false }
def Fresh (st : St) : Prop := ∃ N, ∀ id, N ≤ id → st id = none

section
variable {P : Program}
theorem evalOp_congr {ρ ρ' : Operand → AV} (op : Op) (h : ∀ x ∈ op.operands, ρ x = ρ' x) : evalOp P ρ op = evalOp P ρ' op := by
  cases op
  case move x => simp only [evalOp, h x (by simp [Op.operands])]
  case assign x => simp only [evalOp, h x (by simp [Op.operands])]
  case pick c a b => simp only [evalOp, h c (by simp [Op.operands]), h a (by simp [Op.operands]), h b (by simp [Op.operands])]
  case alloc => rfl
  case box t x => simp only [evalOp, h x (by simp [Op.operands])]
  case build t ps =>
    simp only [evalOp]
    have : ps.toList.map (fun x => (x.1, ρ x.2)) = ps.toList.map fun x => (x.1, ρ' x.2) :=
      List.map_congr_left fun p hp => by rw [h p.2 (by simp [Op.operands]; exact ⟨p.1, by simpa using hp⟩)]
    rw [this]
  case buildSlice t n ps =>
    simp only [evalOp]
    have : ps.toList.map (fun x => (x.1, ρ x.2)) = ps.toList.map fun x => (x.1, ρ' x.2) :=
      List.map_congr_left fun p hp => by rw [h p.2 (by simp [Op.operands]; exact ⟨p.1, by simpa using hp⟩)]
    rw [this]
  case load t x => simp only [evalOp, h x (by simp [Op.operands])]
  case store t x v => simp only [evalOp, h x (by simp [Op.operands]), h v (by simp [Op.operands])]
  case fieldAddr t x f => simp only [evalOp, h x (by simp [Op.operands])]
  case field t x f => simp only [evalOp, h x (by simp [Op.operands])]
  case indexAddr t x f => simp only [evalOp, h x (by simp [Op.operands]), h f (by simp [Op.operands])]
  case index t x f => simp only [evalOp, h x (by simp [Op.operands]), h f (by simp [Op.operands])]
  case binOp o t x y u => simp only [evalOp, h x (by simp [Op.operands]), h y (by simp [Op.operands])]
  case unOp o t x => simp only [evalOp, h x (by simp [Op.operands])]
  case extract x f => simp only [evalOp, h x (by simp [Op.operands])]
  case makeFunc fn first cap =>
    have : cap.toList.map ρ = cap.toList.map ρ' := List.map_congr_left fun p hp => h p (by simp [Op.operands]; right; simpa using hp)
    cases fn <;> simp only [evalOp, this]
  case call c =>
    obtain ⟨callee, args, tys⟩ := c
    have : args.toList.map ρ = args.toList.map ρ' := List.map_congr_left fun p hp => h p (by simp [Op.operands, Call.operands]; right; simpa using hp)
    cases callee with
    | value f => simp only [evalOp, this, h f (by simp [Op.operands, Call.operands])]
    | invoke r m => rfl
    | builtin b => cases b <;> simp only [evalOp, this]
  case slice t x lo hi mx =>
    rcases lo with _ | lo <;> rcases hi with _ | hi <;> rcases mx with _ | mx <;> simp [evalOp, h, Op.operands]
  case convert src dst x => simp only [evalOp, h x (by simp [Op.operands])]
  case makeMap t r =>
    rcases r with _ | r
    · rfl
    · have := h r (by simp [Op.operands])
      simp only [evalOp, this]
  case lookup t x ix ok => simp only [evalOp, h x (by simp [Op.operands]), h ix (by simp [Op.operands])]
  case mapUpdate t m k v => simp only [evalOp, h m (by simp [Op.operands]), h k (by simp [Op.operands]), h v (by simp [Op.operands])]
  case insert t m k v => simp only [evalOp, h m (by simp [Op.operands]), h k (by simp [Op.operands]), h v (by simp [Op.operands])]
  case range t x => simp only [evalOp, h x (by simp [Op.operands])]
  case next x s => simp only [evalOp, h x (by simp [Op.operands])]
  case entry x => simp only [evalOp, h x (by simp [Op.operands])]
  all_goals rfl

theorem upd_upd (st : St) {i j : Nat} (h : i ≠ j) (x y : AObj) : (st.upd i x).upd j y = (st.upd j y).upd i x := by
  funext k
  simp only [St.upd]
  by_cases h1 : k = j <;> by_cases h2 : k = i <;> simp [h1, h2]
  · exact absurd (h2.symm.trans h1) h
  · intro e; exact absurd e.symm h
  · intro e; exact absurd e h
theorem upd_ne (st : St) {i j : Nat} (h : j ≠ i) (x : AObj) : (st.upd i x) j = st j := by simp [St.upd, h]
theorem upd_eq (st : St) (i : Nat) (x : AObj) : (st.upd i x) i = some x := by simp [St.upd]
theorem Fresh.upd {st : St} (h : Fresh st) (i : Nat) (x : AObj) : Fresh (st.upd i x) := by
  obtain ⟨N, hN⟩ := h
  exact ⟨max N (i + 1), fun id hid => by rw [upd_ne _ (by omega)]; exact hN id (by omega)⟩

theorem resKP_mono {rv : AV} {r : ORes} {st : St} {K K' : AV → St → Prop} (h : ∀ v st', K v st' → K' v st') (hr : resKP P rv r st K) : resKP P rv r st K' := by
  cases r with
  | val v => exact h _ _ hr
  | load id off n ag =>
    obtain ⟨t, cs, h1, h2, h3⟩ := resK_load (P := P) hr
    show resK P (.load id off n ag) st K'
    unfold resK; simp only [h1]; exact ⟨h2, h _ _ h3⟩
  | store id off vs =>
    obtain ⟨t, cs, h1, h2, h3⟩ := resK_store (P := P) hr
    show resK P (.store id off vs) st K'
    unfold resK; simp only [h1]; exact ⟨h2, h _ _ h3⟩
  | new t cs => exact fun id hid => h _ _ (hr id hid)
  | lit sz xs => exact h _ _ hr
  | app e sz by_ xs ys o => obtain ⟨st0, h1, h2⟩ := hr; exact ⟨st0, h1, fun o' st' ho => h _ _ (h2 o' st' ho)⟩
  | call f args => exact ⟨hr.1, h _ _ hr.2⟩
  | mget id k key ok z => obtain ⟨v, h1, h2⟩ := (obs_iff (P := P) (rv := rv) rfl).1 hr; exact (obs_iff rfl).2 ⟨v, h1, h _ _ h2⟩
  | mlen id => obtain ⟨v, h1, h2⟩ := (obs_iff (P := P) (rv := rv) rfl).1 hr; exact (obs_iff rfl).2 ⟨v, h1, h _ _ h2⟩
  | _ => exact hr.elim
theorem opT_mono {n : Nat} {cr : List (Nat × AV)} {x : AOp} {K K' : Env → St → Prop} (h : ∀ e s, K e s → K' e s) {env : Env} {st : St} (hr : opT P n cr x K env st) : opT P n cr x K' env st := by
  unfold opT at *
  refine ⟨hr.1, ?_⟩
  replace hr := hr.2
  cases hg : guardV env x.g with
  | none => simp only [hg] at hr
  | some b =>
    cases b
    · simp only [hg] at hr ⊢; exact h _ _ hr
    · simp only [hg] at hr ⊢; exact ⟨hr.1, resKP_mono (fun v s => h _ s) hr.2⟩
theorem vcT_mono {n : Nat} {cr : List (Nat × AV)} : ∀ (l : List AOp) {K K' : Env → St → Prop} (_ : ∀ e s, K e s → K' e s) {env : Env} {st : St}, vcT P n cr l env st K → vcT P n cr l env st K'
  | [], _, _, h, _, _, hr => h _ _ hr
  | _ :: l, _, _, h, _, _, hr => opT_mono (fun _ _ hk => vcT_mono l h hk) hr
end
end Go.Sh
