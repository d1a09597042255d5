/- Shadow logic, part H: every operation, sound. -/
import Derived.Test.YtdhmbpipjdapfaaGreatShG
namespace Go.Sh
open Go.RowKit
section
variable {P : Program} {B n : Nat} {w0 w : World} {M : Mem} {st : St} {K : AV → St → Prop} {env : Env} {a : Act}

theorem out_of_val (hI : Inv B w0 M st w) {s : Sem Value} (h : ∃ r z, s.run P w = .ok r w ∧ RepV M z r ∧ K z st) : Out P B w0 M st w K ((do pure (.value (← s)) : Sem Next).run P w) := by
  obtain ⟨r, z, h1, h2, h3⟩ := h
  exact out_val hI h1 h2 h3

theorem addr_add (b off j : Nat) : (⟨b, off, none⟩ : Addr).add j = ⟨b, off + j, none⟩ := Addr.add_lit b off j
theorem getD_take (l : List AV) (n j : Nat) : (l.take n).getD j .undef = if j < n then l.getD j .undef else .undef := by
  rw [List.getD_eq_getElem?_getD, List.getElem?_take]
  split <;> simp [List.getD_eq_getElem?_getD]
theorem getD_drop (l : List AV) (n j : Nat) : (l.drop n).getD j .undef = l.getD (n + j) .undef := by
  rw [List.getD_eq_getElem?_getD, List.getElem?_drop, List.getD_eq_getElem?_getD]
theorem rep_agg_range {cs : List AV} {g : Nat → Value} (n : Nat) (hn : n ≤ cs.length) (hg : ∀ j, RepV M (cs.getD j .undef) (g j)) : RepV M (.agg (cs.take n)) (.agg ((List.range n).map g).toArray) := by
  refine .agg _ _ (by simp; omega) fun j => ?_
  rw [getD_take, Array.getD_eq_getD_getElem?]
  by_cases h : j < n
  · rw [if_pos h]; simpa [h] using hg j
  · rw [if_neg h]; exact .undef _

theorem sound_load (hI : Inv B w0 M st w) {t : TypeId} {x : AV} {u : Value} (hx : RepV M x u) {i : TI} (ht : tiOf P t = some i)
    (h : resK P (match (generalizing := false) x with
      | .eptr cs => if i.k.agg then (if i.size ≤ cs.length then .val (.agg (cs.take i.size)) else .stuck) else
          (if i.size = 1 then match (generalizing := false) cs with | c :: _ => .val c | [] => .stuck else .stuck)
      | .box id off => if i.k.agg = false → i.size = 1 then .load id off i.size i.k.agg else .stuck
      | _ => .stuck) st K) : ∃ r z, (Instr.loadAt t u).run P w = .ok r w ∧ RepV M z r ∧ K z st := by
  cases hx
  case box id off hid =>
    by_cases hc : i.k.agg = false → i.size = 1
    · simp only [if_pos hc] at h
      obtain ⟨tt, cs, hs, hl, hK⟩ := resK_load h
      obtain ⟨_, arr, h1, h2, h3, h4⟩ := hI.obj id _ hs
      have hcell : ∀ j, j < i.size → w.cell? ((⟨M.pos id, off, none⟩ : Addr).add j) = some (arr.getD (off + j) Go.undef) := by
        intro j hj
        rw [addr_add, cell_of_row w _ _ _ _ _ h1]
        have : off + j < arr.size := by omega
        simp [this]
      refine ⟨_, _, run_loadVar' ht _ _ (fun h => by rw [hc h]; omega) hcell, ?_, hK⟩
      cases hag : i.k.agg with
      | true =>
        simp only [if_true]
        refine rep_agg_range i.size (by simp; omega) fun j => ?_
        rw [getD_drop]; exact h3 _
      | false => simpa using h3 off
    · simp only [if_neg hc] at h; exact h.elim
  case eptr cs addr g hF hg =>
    cases hag : i.k.agg with
    | true =>
      simp only [hag, if_true] at h
      by_cases hl : i.size ≤ cs.length
      · rw [if_pos hl] at h
        refine ⟨_, _, run_loadVar' ht _ g (fun h => by simp [hag] at h) (fun j hj => hI.mem _ _ (hF j (by omega))), ?_, h⟩
        simp only [hag, if_true]
        exact rep_agg_range i.size hl hg
      · rw [if_neg hl] at h; exact h.elim
    | false =>
      simp only [hag, Bool.false_eq_true, if_false] at h
      by_cases hl : i.size = 1
      · rw [if_pos hl] at h
        cases cs with
        | nil => exact h.elim
        | cons c cs =>
          refine ⟨_, _, run_loadVar' ht _ g (fun _ => by omega) (fun j hj => hI.mem _ _ (hF j (by simp; omega))), ?_, h⟩
          simpa [hag] using hg 0
      · rw [if_neg hl] at h; exact h.elim
  all_goals exact h.elim

/-! ### store, new blocks -/
theorem mem_cells_one {M : Mem} {cs : List AV} {vs : Array Value} (h : RepL M cs vs) (ho : cs.all AV.one = true) : ∀ v ∈ vs.toList, v.oneCell' = true := by
  intro v hv
  obtain ⟨j, hj, rfl⟩ := List.getElem_of_mem hv
  have hj' : j < vs.size := by simpa using hj
  have hjc : j < cs.length := by rw [← h.1]; exact hj'
  have := h.2 j
  rw [List.getD_eq_getElem?_getD, List.getElem?_eq_getElem hjc, Option.getD_some, Array.getD_eq_getD_getElem?, Array.getElem?_eq_getElem hj', Option.getD_some] at this
  rw [Array.getElem_toList]
  exact this.one (List.all_eq_true.1 ho _ (List.getElem_mem hjc))
theorem sound_store (hI : Inv B w0 M st w) {t : TypeId} {x v : AV} {u y : Value} (hx : RepV M x u) (hv : RepV M v y) {i : TI} (ht : tiOf P t = some i)
    (h : resK P (match (generalizing := false) x, v.cells? with
      | .box id off, some cs => if cs.length = i.size ∧ cs.all AV.one then .store id off cs else .stuck
      | _, _ => .stuck) st K) : ∃ w' st', (Instr.storeAt t u y).run P w = .ok () w' ∧ Inv B w0 M st' w' ∧ K .undef st' := by
  cases hx
  case box id off hid =>
    cases hc : v.cells? with
    | none => simp only [hc] at h; exact h.elim
    | some cs =>
      simp only [hc] at h
      by_cases hh : cs.length = i.size ∧ cs.all AV.one
      · rw [if_pos hh] at h
        obtain ⟨tt, cs0, hs, hl, hK⟩ := resK_store h
        obtain ⟨_, arr, h1, h2, h3, h4⟩ := hI.obj id _ hs
        have hr := hv.cells hc
        have hsz : ¬ (y.cells.size ≠ i.size) := by rw [hr.1]; simp [hh.1]
        have hrun := run_storeCells (P := P) tt (M.pos id) off y.cells.toList 0 arr w h1 (mem_cells_one hr hh.2) (by simp; have := hr.1; omega)
        refine ⟨_, _, ?_, hI.store (cs' := spliceL cs0 off cs) hs arr (splice arr off y.cells.toList) h1 (RepL.splice cs y.cells.toList ⟨h2, h3⟩ off hl (by simpa using hr)), hK⟩
        simp only [Instr.storeAt, Instr.sureAddr, pure_bind, storeVar, Sem.run_bind, run_sizeOf' ht, Result.andThen_ok]
        rw [if_neg hsz]
        simpa using hrun
      · rw [if_neg hh] at h; exact h.elim
  all_goals exact h.elim

theorem run_newRow (t : TypeId) (arr : Array Value) : (newRow t arr).run P w = .ok ⟨w.heap.size, 0, none⟩ (w.alloc (.cells arr t (0, 0))) := by
  simp [newRow]
theorem inv_new (hI : Inv B w0 M st w) (t : TypeId) {cs : List AV} {arr : Array Value} (hr : RepL M cs arr) :
    ∃ M', M.le M' ∧ Inv B w0 M' (st.upd M.next (.cells t cs)) (w.alloc (.cells arr t (0, 0))) ∧ RepV M' (.box M.next 0) (.pointer (some ⟨w.heap.size, 0, none⟩)) := by
  have hle := hI.grow_le 0 0 arr
  refine ⟨M.grow w.heap.size 0 0 arr, hle, hI.alloc t 0 0 arr fun id o e => ?_, ?_⟩
  · simp only [St.upd] at e
    split at e
    · rename_i hid
      injection e with e; subst e
      refine .inr ⟨hid, arr, by rw [heap_alloc, if_pos rfl], hr.1, (hr.mono hle).2, fun a ha => ?_⟩
      simp [Mem.grow, ha]
    · rename_i hid; exact .inl ⟨hid, e⟩
  · have := RepV.box (M := M.grow w.heap.size 0 0 arr) M.next 0 (by simp [Mem.grow])
    simpa [Mem.grow] using this
theorem sound_new (hI : Inv B w0 M st w) {t : TypeId} {cs : List AV} {arr : Array Value} (hr : RepL M cs arr) (h : resK P (.new t cs) st K) :
    Out P B w0 M st w K ((do pure (.value (.pointer (some (← newRow t arr)))) : Sem Next).run P w) := by
  obtain ⟨M', h1, h2, h3⟩ := inv_new hI t hr
  simp only [Sem.run_bind, run_newRow, Result.andThen_ok, Sem.run_pure]
  refine ⟨M', _, _, h1, h2, h3, h M.next ?_⟩
  cases hs : st M.next with
  | none => rfl
  | some o => have := hI.dom _ _ hs; omega
end
end Go.Sh
