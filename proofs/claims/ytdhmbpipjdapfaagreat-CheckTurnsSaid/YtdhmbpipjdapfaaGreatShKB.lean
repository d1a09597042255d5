/- Shadow logic, part KB: maps. -/
import Derived.Test.YtdhmbpipjdapfaaGreatShKA
namespace Go.Sh
open Go.RowKit
open Go.MapKept (run_findKey)
section
variable {P : Program} {B n : Nat} {w0 w : World} {M : Mem} {st : St} {K : AV → St → Prop} {env : Env} {a : Act}

theorem upd_key {st : St} {id : Nat} {o : AObj} {i : Nat} {x : AObj} (e : (st.upd id o) i = some x) : i = id ∧ x = o ∨ i ≠ id ∧ st i = some x := by
  simp only [St.upd] at e
  split at e
  · rename_i hi; injection e with e; exact .inl ⟨hi, e.symm⟩
  · rename_i hi; exact .inr ⟨hi, e⟩
theorem O_none' (hI : Inv B w0 M st w) : M.O w.heap.size = none := by
  cases ho : M.O w.heap.size with
  | none => rfl
  | some o => have := (Array.getElem?_eq_some_iff.1 (hI.oth _ _ ho).1).1; omega
/-- A block that holds no cells is laid: an object's. -/
theorem Inv.layObj (h : Inv B w0 M st w) (o : Obj) (ao : AObj) (hok : ObjOk (M.grow w.heap.size 0 0 #[]) (w.alloc o) w.heap.size 0 ao) :
    M.le (M.grow w.heap.size 0 0 #[]) ∧ Inv B w0 (M.grow w.heap.size 0 0 #[]) (st.upd M.next ao) (w.alloc o) := by
  have hle := h.grow_le 0 0 #[]
  have key : ∀ i x, (st.upd M.next ao) i = some x → i = M.next ∧ x = ao ∨ i < M.next ∧ st i = some x := by
    intro i x e
    rcases upd_key e with h1 | ⟨_, h1⟩
    · exact .inl h1
    · exact .inr ⟨h.dom i x h1, h1⟩
  refine ⟨hle, h.below.alloc h.size _, by simp; have := h.size; omega, fun a v e => ?_, fun i x e => ?_, fun i j oi oj ei ej hp => ?_, fun i x e => ?_, fun k x e => ?_, h.rnd⟩
  · simp only [Mem.grow] at e
    split at e
    · split at e
      · rename_i hs; omega
      · cases e
    · have hm := h.mem a v e
      rename_i hb
      simp only [World.cell?, heap_alloc, hb, if_false]
      exact hm
  · simp only [Mem.grow]
    rcases key i x e with ⟨e, _⟩ | ⟨e, _⟩ <;> omega
  · rcases key i oi ei with ⟨e1, _⟩ | ⟨e1, f1⟩ <;> rcases key j oj ej with ⟨e2, _⟩ | ⟨e2, f2⟩
    · omega
    · simp only [Mem.grow, e1, if_true] at hp
      rw [if_neg (by omega)] at hp
      have := (h.obj j oj f2).2.block; omega
    · simp only [Mem.grow, e2, if_true] at hp
      rw [if_neg (by omega)] at hp
      have := (h.obj i oi f1).2.block; omega
    · simp only [Mem.grow] at hp
      rw [if_neg (by omega), if_neg (by omega)] at hp
      exact h.inj i j oi oj f1 f2 hp
  · rcases key i x e with ⟨e1, e2⟩ | ⟨e1, f1⟩
    · subst e2
      simp only [Mem.grow, e1, if_true]
      exact ⟨h.size, hok⟩
    · have hb := (h.obj i x f1).2.block
      simp only [Mem.grow]
      rw [if_neg (by omega), if_neg (by omega)]
      refine ⟨(h.obj i x f1).1, (h.obj i x f1).2.keep hle (by rw [heap_alloc, if_neg (by omega)]) fun a ha => ?_⟩
      show (if _ then _ else _) = _; rw [if_neg (by omega)]
  · obtain ⟨h1, h2⟩ := h.oth _ _ (show M.O k = some x from e)
    have := (Array.getElem?_eq_some_iff.1 h1).1
    exact ⟨by rw [heap_alloc, if_neg (by omega)]; exact h1, h2⟩
/-- An object that holds no cells is turned. -/
theorem Inv.turnObj (h : Inv B w0 M st w) {id : Nat} {ao ao' : AObj} (hid : st id = some ao) (o o' : Obj) (ho : w.heap[M.pos id]? = some o) (hc : o.isCells = false) (hO : M.O (M.pos id) = none)
    (hok : ObjOk M (w.putObj (M.pos id) o') (M.pos id) (M.cap id) ao') : Inv B w0 M (st.upd id ao') (w.putObj (M.pos id) o') := by
  have hlt := (Array.getElem?_eq_some_iff.1 ho).1
  have hB := (h.obj id _ hid).1
  refine ⟨⟨h.below.os, h.below.tape, h.below.output, by simpa using h.below.size, fun i hi => by rw [World.putObj_heap_other (by omega)]; exact h.below.block i hi⟩, by simpa using h.size, fun a v e => ?_, fun i x e => ?_, fun i j oi oj ei ej hp => ?_, fun i x e => ?_, fun k x e => ?_, h.rnd⟩
  · have hm := h.mem a v e
    have hne : a.block ≠ M.pos id := by
      intro hb
      simp only [World.cell?, hb, ho] at hm
      cases o <;> simp [Obj.isCells] at hm hc
    simp only [World.cell?]
    rw [World.putObj_heap_other hne]
    exact hm
  · rcases upd_key e with ⟨rfl, _⟩ | ⟨_, e⟩
    · exact h.dom _ _ hid
    · exact h.dom _ _ e
  · have key : ∀ i x, (st.upd id ao') i = some x → ∃ y, st i = some y := by
      intro i x e
      rcases upd_key e with ⟨e1, _⟩ | ⟨_, e⟩
      · rw [e1]; exact ⟨_, hid⟩
      · exact ⟨_, e⟩
    obtain ⟨_, fi⟩ := key i oi ei
    obtain ⟨_, fj⟩ := key j oj ej
    exact h.inj i j _ _ fi fj hp
  · rcases upd_key e with ⟨rfl, rfl⟩ | ⟨hne, e⟩
    · exact ⟨hB, hok⟩
    · have hp : M.pos i ≠ M.pos id := fun hp => hne (h.inj i id x _ e hid hp)
      exact ⟨(h.obj i x e).1, (h.obj i x e).2.keep (.refl M) (World.putObj_heap_other hp) fun _ _ => rfl⟩
  · obtain ⟨k1, k2⟩ := h.oth k x e
    have hne : k ≠ M.pos id := by rintro rfl; rw [hO] at e; cases e
    exact ⟨(World.putObj_heap_other hne).trans k1, k2⟩

theorem putObj_eq (w : World) (r : Nat) (o : Obj) : ({ w with heap := w.heap.setIfInBounds r o } : World) = w.putObj r o := rfl
theorem sound_mnew (hI : Inv B w0 M st w) (h : ∀ id, st id = none → K (.map id) (st.upd id (.map [] 0))) :
    ∃ M' v st', M.le M' ∧ Inv B w0 M' st' (w.alloc (.map #[] 0)) ∧ RepV M' v (.map (some w.heap.size)) ∧ K v st' := by
  obtain ⟨h1, h2⟩ := hI.layObj (.map #[] 0) (.map [] 0) ⟨(O_none' hI : M.O w.heap.size = none), #[], by rw [heap_alloc, if_pos rfl], rfl, fun j e x he => by simp at he⟩
  refine ⟨_, _, _, h1, h2, ?_, h _ (st_next_none hI)⟩
  have := RepV.map (M := M.grow w.heap.size 0 0 #[]) M.next (by simp [Mem.grow])
  simpa [Mem.grow] using this

theorem eq1_now {k : SK} {kt : TypeId} (hk : scalarK P kt = some k) : ∃ d, P.underlying kt = some d ∧ ∀ (u v : AV) (x y : Value) (b : Bool), RepV M u x → RepV M v y → avEq1 k u v = some b → Instr.sameNow d x y = some b := by
  unfold scalarK at hk
  cases hu : P.underlying kt with
  | none => simp [hu] at hk
  | some d =>
    refine ⟨d, rfl, fun u v x y b hx hy he => ?_⟩
    cases d <;> simp [hu] at hk <;> subst hk <;> cases hx <;> cases hy <;> simp [avEq1] at he
    · subst he; simp [Instr.sameNow]; exact Bool.beq_eq_decide_eq ..
    · obtain ⟨rfl, rfl⟩ := he; simp [Instr.sameNow]; rw [Bool.eq_iff_iff]; simp
    · subst he
      simp [Instr.sameNow]
      rename_i a b
      have := beq_toListBytes a b
      rw [beq_bytes] at this
      exact this
theorem find_now {k : SK} {d : TypeDesc} {key : AV} {kx : Value} (hd : ∀ (u v : AV) (x y : Value) (b : Bool), RepV M u x → RepV M v y → avEq1 k u v = some b → Instr.sameNow d x y = some b) (hkx : RepV M key kx) :
    ∀ (es : List MEnt) (xs : List MapEntry) (i : Nat) (r : Option (Nat × AV)), xs.length = es.length → (∀ (j : Nat) (e : MEnt) (x : MapEntry), es[j]? = some e → xs[j]? = some x → RepV M e.key x.key ∧ RepV M e.val x.val ∧ x.born = e.born) →
    mfind k key es i = some r → (match r with | none => Instr.findNow d kx xs i = some none | some (j, v) => ∃ x, i ≤ j ∧ xs[j - i]? = some x ∧ (∃ e, es[j - i]? = some e ∧ e.val = v) ∧ Instr.findNow d kx xs i = some (some (j, x.val)) ∧ avEq1 k key (es[j - i]?.getD default).key = some true)
  | [], [], i, r, _, _, hf => by
    simp only [mfind, Option.some.injEq] at hf
    subst hf
    rfl
  | [], _ :: _, _, _, hl, _, _ => by simp at hl
  | _ :: _, [], _, _, hl, _, _ => by simp at hl
  | e :: es, x :: xs, i, r, hl, hr, hf => by
    have h0 := hr 0 e x rfl rfl
    simp only [mfind] at hf
    cases he : avEq1 k key e.key with
    | none => simp [he] at hf
    | some b =>
      have hs := hd _ _ _ _ _ hkx h0.1 he
      cases b with
      | true =>
        simp only [he, Option.some.injEq] at hf
        subst hf
        exact ⟨x, Nat.le_refl _, by simp, ⟨e, by simp⟩, by simp [Instr.findNow, hs], by simpa using he⟩
      | false =>
        simp only [he] at hf
        have ih := find_now hd hkx es xs (i + 1) r (by simpa using hl) (fun j e' x' h1 h2 => hr (j + 1) e' x' (by simpa using h1) (by simpa using h2)) hf
        cases r with
        | none => simp only at ih ⊢; simp [Instr.findNow, hs, ih]
        | some p =>
          obtain ⟨j, v⟩ := p
          simp only at ih ⊢
          obtain ⟨y, h1, h2, ⟨e', h3, h4⟩, h5, h6⟩ := ih
          have hji : j - i = (j - (i + 1)) + 1 := by omega
          refine ⟨y, by omega, by rw [hji]; simpa using h2, ⟨e', by rw [hji]; simpa using h3, h4⟩, by simp [Instr.findNow, hs, h5], by rw [hji]; simpa using h6⟩

theorem map_of {id : Nat} {es : List MEnt} {clock : Nat} (hI : Inv B w0 M st w) (hs : st id = some (.map es clock)) :
    M.O (M.pos id) = none ∧ ∃ arr : Array MapEntry, w.heap[M.pos id]? = some (.map arr clock) ∧ arr.toList.length = es.length ∧ ∀ (j : Nat) (e : MEnt) (x : MapEntry), es[j]? = some e → arr.toList[j]? = some x → RepV M e.key x.key ∧ RepV M e.val x.val ∧ x.born = e.born := by
  obtain ⟨_, h0, arr, h1, h2, h3⟩ := hI.obj id _ hs
  exact ⟨h0, arr, h1, by simpa using h2, fun j e x he hx => h3 j e x he (by simpa using hx)⟩
theorem run_checkKey' {kt : TypeId} {k : SK} (hk : scalarK P kt = some k) (em : Bool) (m : Nat) (x : Value) : (Instr.checkKey em (m + 1) kt x).run P w = .ok () w := by
  unfold scalarK at hk
  unfold Instr.checkKey
  cases hu : P.underlying kt with
  | none => simp [hu] at hk
  | some d => simp only [Sem.run_bind, run_underlying hu, Result.andThen]; cases d <;> simp [hu] at hk <;> rfl
theorem run_zv {t : TypeId} {z : AV} (h : zvOf P t = some z) (M : Mem) : ∃ x, (zeroValue t).run P w = .ok x w ∧ RepV M z x := by
  unfold zvOf at h
  cases hi : P.info? t with
  | none => simp [hi] at h
  | some i =>
    cases hz : i.zero with
    | none => simp [hi, hz] at h
    | some x =>
      simp [hi, hz] at h
      subst h
      refine ⟨x, by simp [zeroValue, run_info hi, hz], ?_⟩
      unfold zAVv
      split
      · rename_i cs
        exact .agg _ _ (by simp) fun j => (RepL.ofZero M cs).2 j
      · exact zAV_rep M _

theorem sound_mget (hI : Inv B w0 M st w) {t kt vt : TypeId} {k : SK} {z : AV} (hu : P.underlying t = some (.map kt vt)) (hk : scalarK P kt = some k) (hz : zvOf P vt = some z) {id : Nat} {key : AV} {kx mx : Value} (hm : RepV M (.map id) mx) (hkx : RepV M key kx) (ok : Bool)
    (h : resK P (.mget id k key ok z) st K) : ∃ r v, (Instr.lookup t mx kx ok).run P w = .ok r w ∧ RepV M v r ∧ K v st := by
  unfold resK at h
  split at h
  all_goals first | (rename_i e; cases e; done) | skip
  rename_i e9
  injection e9 with e1 e2 e3 e4 e5
  subst e1 e2 e3 e4 e5
  split at h
  case h_2 => exact h.elim
  rename_i es clock hs
  obtain ⟨hO, arr, a1, a2, a3⟩ := map_of hI hs
  obtain ⟨d, hd, hn⟩ := eq1_now (M := M) hk
  generalize hmm : mx = mm at hm
  cases hm
  subst hmm
  split at h
  · rename_i j v hf
    obtain ⟨x, h1, h2, ⟨e, h3, h4⟩, h5, _⟩ := find_now hn hkx es arr.toList 0 _ a2 a3 hf
    have hv : RepV M v x.val := by rw [← h4]; exact (a3 _ e x h3 h2).2.1
    have hfk := run_findKey (P := P) (w := w) hd h5
    have hrun : (Instr.lookup t (.map (some (M.pos id))) kx ok).run P w = .ok (if ok then .tuple #[x.val, .bool true] else x.val) w := by
      simp only [Instr.lookup, Sem.run_bind, run_underlying hu, Result.andThen_ok, MapKept.run_getObj_map a1, Sem.run_pure, run_checkKey' hk, hfk]
    refine ⟨_, _, hrun, ?_, h⟩
    cases ok with
    | true => exact .tup _ _ rfl (fun j => by rcases j with _ | _ | j <;> simp <;> first | exact hv | exact .bool _ | exact .undef _)
    | false => exact hv
  · rename_i hf
    have h5 : Instr.findNow d kx arr.toList 0 = some none := find_now hn hkx es arr.toList 0 _ a2 a3 hf
    have hfk := run_findKey (P := P) (w := w) hd h5
    obtain ⟨zx, hzr, hzv⟩ := run_zv (P := P) (w := w) hz M
    have hrun : (Instr.lookup t (.map (some (M.pos id))) kx ok).run P w = .ok (if ok then .tuple #[zx, .bool false] else zx) w := by
      simp only [Instr.lookup, Sem.run_bind, run_underlying hu, Result.andThen_ok, MapKept.run_getObj_map a1, Sem.run_pure, run_checkKey' hk, hfk, hzr]
    refine ⟨_, _, hrun, ?_, h⟩
    cases ok with
    | true => exact .tup _ _ rfl (fun j => by rcases j with _ | _ | j <;> simp <;> first | exact hzv | exact .bool _ | exact .undef _)
    | false => exact hzv
  · exact h.elim

theorem msetL_get (key v : AV) : ∀ (es : List MEnt) (i j : Nat) (e : MEnt), (msetL key v es i)[j]? = some e → (j = i ∧ ∃ e0, es[j]? = some e0 ∧ e = ⟨key, v, e0.born⟩) ∨ (j ≠ i ∧ es[j]? = some e)
  | [], _, _, _, h => by simp [msetL] at h
  | x :: es, 0, j, e, h => by
    cases j with
    | zero => simp [msetL] at h; exact .inl ⟨rfl, x, rfl, h.symm⟩
    | succ j => simp [msetL] at h; exact .inr ⟨by omega, by simpa using h⟩
  | x :: es, i + 1, j, e, h => by
    cases j with
    | zero => simp [msetL] at h; exact .inr ⟨by omega, by simpa using h⟩
    | succ j =>
      simp [msetL] at h
      rcases msetL_get key v es i j e h with ⟨h1, e0, h2, h3⟩ | ⟨h1, h2⟩
      · exact .inl ⟨by omega, e0, by simpa using h2, h3⟩
      · exact .inr ⟨by omega, by simpa using h2⟩
theorem msetL_len (key v : AV) : ∀ (es : List MEnt) (i : Nat), (msetL key v es i).length = es.length
  | [], _ => rfl
  | _ :: es, 0 => rfl
  | _ :: es, i + 1 => by simp [msetL, msetL_len key v es i]
theorem same_bits {k : SK} {u v : AV} {x y : Value} (hx : RepV M u x) (hy : RepV M v y) (h : avEq1 k u v = some true) (m : Nat) : Instr.sameBits (m + 1) y x = true ∧ y = x := by
  cases k <;> cases hx <;> cases hy <;> simp [avEq1] at h
  · obtain ⟨rfl, rfl⟩ := h; simp [Instr.sameBits]
  · subst h; simp [Instr.sameBits]
  · subst h
    refine ⟨?_, rfl⟩
    simp only [Instr.sameBits]
    rename_i s
    have := beq_toListBytes s s
    rw [beq_bytes] at this
    simpa using this

theorem sound_mset (hI : Inv B w0 M st w) {t kt vt : TypeId} {k : SK} (hu : P.underlying t = some (.map kt vt)) (hk : scalarK P kt = some k) {id : Nat} {key v : AV} {kx vx mx : Value} (hm : RepV M (.map id) mx) (hkx : RepV M key kx) (hvx : RepV M v vx)
    (h : resK P (.mset id k key v) st K) : ∃ w' st', (Instr.mapUpdate t mx kx vx).run P w = .ok () w' ∧ Inv B w0 M st' w' ∧ K .undef st' := by
  unfold resK at h
  split at h
  all_goals first | (rename_i e; cases e; done) | skip
  rename_i e9
  injection e9 with e1 e2 e3 e4
  subst e1 e2 e3 e4
  split at h
  case h_2 => exact h.elim
  rename_i es clock hs
  obtain ⟨hO, arr, a1, a2, a3⟩ := map_of hI hs
  have hlt := (Array.getElem?_eq_some_iff.1 a1).1
  obtain ⟨d, hd, hn⟩ := eq1_now (M := M) hk
  generalize hmm : mx = mm at hm
  cases hm
  subst hmm
  split at h
  · rename_i j v0 hf
    obtain ⟨x, h1, h2, ⟨e, h3, h4⟩, h5, h6⟩ := find_now hn hkx es arr.toList 0 _ a2 a3 hf
    rw [Nat.sub_zero] at h2 h3 h6
    have hfk := run_findKey (P := P) (w := w) hd h5
    have he := a3 j e x h3 h2
    rw [h3] at h6
    have hsb := same_bits hkx he.1 h6
    have hx2 : arr[j]? = some x := by simpa using h2
    have hstay : (Instr.keyThatStays x.key kx).run P w = .ok kx w := by
      unfold Instr.keyThatStays
      rw [if_pos (hsb 9999).1]; rfl
    have hrun : (Instr.mapUpdate t (.map (some (M.pos id))) kx vx).run P w = .ok () (w.putObj (M.pos id) (.map (arr.modify j fun e => { e with key := kx, val := vx }) clock)) := by
      simp only [Instr.mapUpdate, Sem.run_bind, run_underlying hu, Result.andThen_ok, MapKept.run_getObj_map a1, run_checkKey' hk, hfk, hx2, Option.map_some, Option.getD_some, hstay, MapKept.run_setObj_map _ a1]
      rfl
    refine ⟨_, _, hrun, hI.turnObj (ao' := .map (msetL key v es j) clock) hs _ _ a1 rfl hO ⟨hO, _, World.putObj_heap_same hlt, by simpa [msetL_len] using a2, fun i e' x' he' hx' => ?_⟩, h⟩
    rw [Array.getElem?_modify] at hx'
    rcases msetL_get key v es j i e' he' with ⟨rfl, e0, g1, rfl⟩ | ⟨hne, g1⟩
    · rw [if_pos rfl, hx2] at hx'
      simp only [Option.map_some, Option.some.injEq] at hx'
      subst hx'
      rw [h3] at g1; injection g1 with g1; subst g1
      exact ⟨hkx, hvx, he.2.2⟩
    · rw [if_neg (Ne.symm hne)] at hx'
      exact a3 i e' x' g1 (by simpa using hx')
  · rename_i hf
    have h5 : Instr.findNow d kx arr.toList 0 = some none := find_now hn hkx es arr.toList 0 _ a2 a3 hf
    have hfk := run_findKey (P := P) (w := w) hd h5
    have hrun : (Instr.mapUpdate t (.map (some (M.pos id))) kx vx).run P w = .ok () (w.putObj (M.pos id) (.map (arr.push { key := kx, val := vx, born := clock }) (clock + 1))) := by
      simp only [Instr.mapUpdate, Sem.run_bind, run_underlying hu, Result.andThen_ok, MapKept.run_getObj_map a1, run_checkKey' hk, hfk, MapKept.run_setObj_map _ a1]
      rfl
    refine ⟨_, _, hrun, hI.turnObj (ao' := .map (es ++ [⟨key, v, clock⟩]) (clock + 1)) hs _ _ a1 rfl hO ⟨hO, _, World.putObj_heap_same hlt, by simpa using a2, fun i e' x' he' hx' => ?_⟩, h⟩
    have ha2 : arr.size = es.length := by simpa using a2
    rw [Array.getElem?_push] at hx'
    by_cases hi : i < es.length
    · rw [List.getElem?_append_left hi] at he'
      rw [if_neg (by omega)] at hx'
      exact a3 i e' x' he' (by simpa using hx')
    · rw [List.getElem?_append_right (by omega)] at he'
      have : i = es.length := by
        have := (List.getElem?_eq_some_iff.1 he').1
        simp at this; omega
      subst this
      simp only [Nat.sub_self, List.getElem?_cons_zero, Option.some.injEq] at he'
      rw [if_pos ha2.symm] at hx'
      injection hx' with hx'
      subst he' hx'
      exact ⟨hkx, hvx, rfl⟩
  · exact h.elim

theorem sound_mdel (hI : Inv B w0 M st w) {t kt vt t' ty : TypeId} {k : SK} (hu : P.underlying t = some (.map kt vt)) (hk : scalarK P kt = some k) {id : Nat} {key : AV} {kx mx : Value} (hm : RepV M (.map id) mx) (hkx : RepV M key kx)
    (h : resK P (.mdel id k key) st K) : ∃ w' st', (Builtin.delete_ #[t, t'] ty #[mx, kx]).run P w = .ok (.tuple #[]) w' ∧ Inv B w0 M st' w' ∧ K (.tup []) st' := by
  unfold resK at h
  split at h
  all_goals first | (rename_i e; cases e; done) | skip
  rename_i e9
  injection e9 with e1 e2 e3
  subst e1 e2 e3
  split at h
  case h_2 => exact h.elim
  rename_i es clock hs
  obtain ⟨hO, arr, a1, a2, a3⟩ := map_of hI hs
  have hlt := (Array.getElem?_eq_some_iff.1 a1).1
  obtain ⟨d, hd, hn⟩ := eq1_now (M := M) hk
  generalize hmm : mx = mm at hm
  cases hm
  subst hmm
  have ha2 : arr.size = es.length := by simpa using a2
  split at h
  · rename_i j v0 hf
    obtain ⟨x, h1, h2, ⟨e, h3, h4⟩, h5, h6⟩ := find_now hn hkx es arr.toList 0 _ a2 a3 hf
    rw [Nat.sub_zero] at h2 h3 h6
    have hfk := run_findKey (P := P) (w := w) hd h5
    have hj : j < arr.size := by have := (List.getElem?_eq_some_iff.1 h2).1; simpa using this
    have hrun : (Builtin.delete_ #[t, t'] ty #[.map (some (M.pos id)), kx]).run P w = .ok (.tuple #[]) (w.putObj (M.pos id) (.map (arr.eraseIdxIfInBounds j) clock)) := by
      simp only [Builtin.delete_, List.getElem?_toArray, List.getElem?_cons_zero, List.getElem?_cons_succ, Sem.run_bind, run_underlying hu, Result.andThen_ok, MapKept.run_getObj_map a1, run_checkKey' hk, hfk, MapKept.run_setObj_map _ a1]
      rfl
    have hte : (arr.eraseIdxIfInBounds j).toList = arr.toList.eraseIdx j := by
      unfold Array.eraseIdxIfInBounds
      rw [dif_pos hj, Array.toList_eraseIdx]
    refine ⟨_, _, hrun, hI.turnObj (ao' := .map (es.eraseIdx j) clock) hs _ _ a1 rfl hO ⟨hO, _, World.putObj_heap_same hlt, ?_, fun i e' x' he' hx' => ?_⟩, h⟩
    · have e1 : (arr.eraseIdxIfInBounds j).size = (arr.toList.eraseIdx j).length := by rw [← hte, Array.length_toList]
      rw [e1, List.length_eraseIdx, List.length_eraseIdx]
      simp [ha2]
    · have hx2 : (arr.toList.eraseIdx j)[i]? = some x' := by rw [← hte, Array.getElem?_toList]; exact hx'
      rw [List.getElem?_eraseIdx] at he' hx2
      by_cases hij : i < j
      · rw [if_pos hij] at he' hx2
        exact a3 i e' x' he' hx2
      · rw [if_neg hij] at he' hx2
        exact a3 (i + 1) e' x' he' hx2
  · rename_i hf
    have h5 : Instr.findNow d kx arr.toList 0 = some none := find_now hn hkx es arr.toList 0 _ a2 a3 hf
    have hfk := run_findKey (P := P) (w := w) hd h5
    have hrun : (Builtin.delete_ #[t, t'] ty #[.map (some (M.pos id)), kx]).run P w = .ok (.tuple #[]) (w.putObj (M.pos id) (.map arr clock)) := by
      simp only [Builtin.delete_, List.getElem?_toArray, List.getElem?_cons_zero, List.getElem?_cons_succ, Sem.run_bind, run_underlying hu, Result.andThen_ok, MapKept.run_getObj_map a1, run_checkKey' hk, hfk, MapKept.run_setObj_map _ a1]
      rfl
    have := hI.turnObj hs _ (.map arr clock) a1 rfl hO (ao' := .map es clock) ⟨hO, arr, World.putObj_heap_same hlt, ha2, fun i e' x' he' hx' => a3 i e' x' he' (by simpa using hx')⟩
    have hsame : st.upd id (.map es clock) = st := by
      funext i
      simp only [St.upd]
      split
      · rename_i hi; rw [hi, hs]
      · rfl
    rw [hsame] at this
    exact ⟨_, _, hrun, this, h⟩
  · exact h.elim

theorem iter_of {id : Nat} {m : Option Nat} {since : Nat} {seen : List Nat} {last : Nat} (hI : Inv B w0 M st w) (hs : st id = some (.iter m since seen last)) :
    M.O (M.pos id) = none ∧ w.heap[M.pos id]? = some (.mapIter (m.map M.pos) since seen.toArray last) ∧ ∀ i, m = some i → i < M.next := (hI.obj id _ hs).2
theorem sound_mrange (hI : Inv B w0 M st w) {t kt vt : TypeId} (hu : P.underlying t = some (.map kt vt)) {id : Nat} {mx : Value} (hm : RepV M (.map id) mx) (h : resK P (.mrange id) st K) :
    ∃ r w' M' v st', (Instr.range t mx).run P w = .ok r w' ∧ M.le M' ∧ Inv B w0 M' st' w' ∧ RepV M' v r ∧ K v st' := by
  unfold resK at h
  split at h
  all_goals first | (rename_i e; cases e; done) | skip
  rename_i e9
  injection e9 with e1
  subst e1
  split at h
  case h_2 => exact h.elim
  rename_i es clock hs
  obtain ⟨hO, arr, a1, a2, a3⟩ := map_of hI hs
  generalize hmm : mx = mm at hm
  cases hm with
  | map _ hid =>
  subst hmm
  have hrun : (Instr.range t (.map (some (M.pos id)))).run P w = .ok (.pointer (some ⟨w.heap.size, 0, none⟩)) (w.alloc (.mapIter (some (M.pos id)) clock #[] clock)) := by
    simp only [Instr.range, Sem.run_bind, run_underlying hu, Result.andThen_ok, MapKept.run_getObj_map a1, Sem.run_pure]
    rfl
  have hpos : (M.grow w.heap.size 0 0 #[]).pos id = M.pos id := by simp only [Mem.grow]; rw [if_neg (by omega)]
  obtain ⟨h1, h2⟩ := hI.layObj (.mapIter (some (M.pos id)) clock #[] clock) (.iter (some id) clock [] clock)
    ⟨(O_none' hI : M.O w.heap.size = none), by rw [heap_alloc, if_pos rfl, Option.map_some, hpos], fun i hi => by injection hi with hi; subst hi; simp [Mem.grow]; omega⟩
  refine ⟨_, _, _, _, _, hrun, h1, h2, ?_, h _ (st_next_none hI)⟩
  have := RepV.box (M := M.grow w.heap.size 0 0 #[]) M.next 0 (by simp [Mem.grow])
  simpa [Mem.grow] using this
theorem seen_same (seen : List Nat) (b : Nat) : seen.toArray.contains b = seen.contains b := by simp
theorem sound_mnext (hI : Inv B w0 M st w) {ty : TypeId} {id : Nat} {it : Value} (hm : RepV M (.box id 0) it) (h : resK P (.mnext id) st K) :
    ∃ r w' v st', (Instr.next it false ty).run P w = .ok r w' ∧ Inv B w0 M st' w' ∧ RepV M v r ∧ K v st' := by
  unfold resK at h
  split at h
  all_goals first | (rename_i e; cases e; done) | skip
  rename_i e9
  injection e9 with e1
  subst e1
  split at h
  case h_2 => exact h.elim
  rename_i m since seen last hs
  split at h
  case h_2 => exact h.elim
  rename_i es clock hms
  obtain ⟨c1, c2, c3, c4⟩ := h
  obtain ⟨hO, arr, a1, a2, a3⟩ := map_of hI hms
  obtain ⟨hiO, i1, i2⟩ := iter_of hI hs
  simp only [Option.map_some] at i1
  generalize hmm : it = mm at hm
  cases hm with
  | box _ _ hid =>
  subst hmm
  have hlt := (Array.getElem?_eq_some_iff.1 i1).1
  have pair : ∀ x ∈ arr.toList, ∃ e ∈ es, RepV M e.key x.key ∧ RepV M e.val x.val ∧ x.born = e.born := by
    intro x hx
    obtain ⟨j, hj, rfl⟩ := List.getElem_of_mem hx
    have hje : j < es.length := by omega
    exact ⟨es[j], List.getElem_mem hje, a3 j _ _ (List.getElem?_eq_getElem hje) (List.getElem?_eq_getElem hj)⟩
  have pair' : ∀ e ∈ es, ∃ x ∈ arr.toList, x.born = e.born := by
    intro e he
    obtain ⟨j, hj, rfl⟩ := List.getElem_of_mem he
    have hje : j < arr.toList.length := by omega
    exact ⟨arr.toList[j], List.getElem_mem hje, (a3 j _ _ (List.getElem?_eq_getElem hj) (List.getElem?_eq_getElem hje)).2.2⟩
  rcases run_next_at (P := P) w ty (M.pos id) (M.pos m) since last seen.toArray arr clock i1 a1 (fun x hx => by obtain ⟨e, he, _, _, hb⟩ := pair x hx; rw [hb]; exact c1 e he) c2 with ⟨hz, hrun⟩ | ⟨x, hx, w1, hw1, hrun⟩
  · refine ⟨_, w, .tup [.bool false], st, hrun, hI, .tup _ _ rfl (fun j => by rcases j with _ | j <;> simp <;> first | exact .bool _ | exact .undef _), c3 ?_⟩
    unfold leftA
    rw [List.filter_eq_nil_iff]
    intro e he hc
    obtain ⟨x, hx, hb⟩ := pair' e he
    have hz' := Array.eq_empty_of_size_eq_zero hz
    unfold leftOf at hz'
    rw [Array.filter_eq_empty_iff] at hz'
    have := hz' x (by simpa using hx)
    apply this
    rw [hb, seen_same]; exact hc
  · have hI1 : Inv B w0 M st w1 := by rcases hw1 with rfl | rfl; exact hI; exact hI.drew
    have hh1 : w1.heap = w.heap := by rcases hw1 with rfl | rfl <;> rfl
    unfold leftOf at hx
    simp only [Array.toList_filter, List.mem_filter] at hx
    obtain ⟨e, he, k1, k2, k3⟩ := pair x hx.1
    have hlft : e ∈ leftA es seen := by
      unfold leftA
      rw [List.mem_filter]
      refine ⟨he, ?_⟩
      have := hx.2
      rwa [k3, seen_same] at this
    refine ⟨_, _, .tup [.bool true, e.key, e.val], _, hrun, ?_, .tup _ _ rfl (fun j => by rcases j with _ | _ | _ | j <;> simp <;> first | exact .bool _ | exact k1 | exact k2 | exact .undef _), c4 e hlft⟩
    refine hI1.turnObj (ao' := .iter (some m) since (seen ++ [e.born]) clock) hs _ (.mapIter (some (M.pos m)) since (seen.toArray.push x.born) clock) (by rw [hh1]; exact i1) rfl hiO ⟨hiO, ?_, i2⟩
    rw [World.putObj_heap_same (by rw [hh1]; exact hlt), k3]
    simp
theorem sound_mentry (hI : Inv B w0 M st w) {id : Nat} {it : Value} (hm : RepV M (.box id 0) it) (h : resK P (.mentry id) st K) :
    ∃ r v, (Instr.entry it).run P w = .ok r w ∧ RepV M v r ∧ K v st := by
  unfold resK at h
  split at h
  all_goals first | (rename_i e; cases e; done) | skip
  rename_i e9
  injection e9 with e1
  subst e1
  split at h
  case h_2 => exact h.elim
  rename_i m since seen last hs
  split at h
  case h_2 => exact h.elim
  rename_i es clock hms
  obtain ⟨rfl, c2, e, seen', c3, rfl, c4⟩ := h
  obtain ⟨hO, arr, a1, a2, a3⟩ := map_of hI hms
  obtain ⟨hiO, i1, i2⟩ := iter_of hI hs
  simp only [Option.map_some] at i1
  generalize hmm : it = mm at hm
  cases hm with
  | box _ _ hid =>
  subst hmm
  obtain ⟨j, hj, rfl⟩ := List.getElem_of_mem c3
  have hja : j < arr.toList.length := by omega
  have hr := a3 j _ _ (List.getElem?_eq_getElem hj) (List.getElem?_eq_getElem hja)
  have hb : arr.toList.map (·.born) = es.map (·.born) := by
    apply List.ext_getElem?
    intro i
    simp only [List.getElem?_map]
    by_cases hi : i < es.length
    · rw [List.getElem?_eq_getElem hi, List.getElem?_eq_getElem (by omega : i < arr.toList.length)]
      simp only [Option.map_some]
      rw [(a3 i _ _ (List.getElem?_eq_getElem hi) (List.getElem?_eq_getElem (by omega))).2.2]
    · rw [List.getElem?_eq_none (l := arr.toList) (by omega), List.getElem?_eq_none (l := es) (by omega)]; rfl
  have hrun := run_entry_at (P := P) w (M.pos id) (M.pos m) since seen'.toArray arr clock (arr.toList[j]) (by rw [i1, hr.2.2]; simp) a1 (List.getElem_mem hja) (by rw [hb]; exact c2)
  exact ⟨_, .tup [es[j].key, es[j].val], hrun, .tup _ _ rfl (fun j => by rcases j with _ | _ | j <;> simp <;> first | exact hr.1 | exact hr.2.1 | exact .undef _), c4⟩
end
end Go.Sh
