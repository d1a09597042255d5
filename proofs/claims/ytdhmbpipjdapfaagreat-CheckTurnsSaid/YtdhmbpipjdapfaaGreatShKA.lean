/- Shadow logic, part KA: rows that may change, maps. -/
import Derived.Test.YtdhmbpipjdapfaaGreatShK
import Derived.MapKept
import Derived.Maps.RangeRun
namespace Go.Sh
open Go.RowKit
section
variable {P : Program} {B n : Nat} {w0 w : World} {M : Mem} {st : St} {K : AV → St → Prop} {env : Env} {a : Act}

theorem RepL.app {M : Mem} {cs ds : List AV} {vs us : Array Value} (h : RepL M cs vs) (k : RepL M ds us) : RepL M (cs ++ ds) (vs ++ us) := by
  refine ⟨by simp [h.1, k.1], fun j => ?_⟩
  rw [agetD_append, List.getD_eq_getElem?_getD]
  by_cases hj : j < vs.size
  · rw [if_pos hj, List.getElem?_append_left (by rw [← h.1]; exact hj), ← List.getD_eq_getElem?_getD]
    exact h.2 j
  · rw [if_neg hj, List.getElem?_append_right (by rw [← h.1]; omega), ← h.1, ← List.getD_eq_getElem?_getD]
    exact k.2 _
theorem RepL.pad (M : Mem) (k : Nat) (arr : Array Value) (h : arr.size = k) : RepL M (List.replicate k .undef) arr := by
  refine ⟨by simp [h], fun j => ?_⟩
  have : (List.replicate k AV.undef).getD j .undef = .undef := by
    rw [List.getD_eq_getElem?_getD, List.getElem?_replicate]
    split <;> rfl
  rw [this]; exact .undef _
theorem flatten_len (sz : Nat) : ∀ (xs : List (List AV)), (∀ i, i < xs.length → (xs.getD i []).length = sz) → xs.flatten.length = xs.length * sz
  | [], _ => by simp
  | x :: xs, h => by
    have h0 := h 0 (by simp)
    simp only [List.getD_cons_zero] at h0
    have := flatten_len sz xs fun i hi => by have := h (i + 1) (by simp; omega); simpa using this
    simp only [List.flatten_cons, List.length_append, this, h0, List.length_cons, Nat.succ_mul]
    omega
theorem flatten_get (sz : Nat) : ∀ (xs : List (List AV)), (∀ i, i < xs.length → (xs.getD i []).length = sz) → ∀ i j, i < xs.length → j < sz → xs.flatten.getD (i * sz + j) .undef = (xs.getD i []).getD j .undef
  | [], _, i, j, hi, _ => by simp at hi
  | x :: xs, h, 0, j, _, hj => by
    have h0 := h 0 (by simp)
    simp only [List.getD_cons_zero] at h0
    simp only [List.flatten_cons, Nat.zero_mul, Nat.zero_add, List.getD_cons_zero]
    rw [List.getD_eq_getElem?_getD, List.getElem?_append_left (by omega), ← List.getD_eq_getElem?_getD]
  | x :: xs, h, i + 1, j, hi, hj => by
    have h0 := h 0 (by simp)
    simp only [List.getD_cons_zero] at h0
    have := flatten_get sz xs (fun i hi => by have := h (i + 1) (by simp; omega); simpa using this) i j (by simpa using hi) hj
    simp only [List.flatten_cons, List.getD_cons_succ]
    rw [List.getD_eq_getElem?_getD, List.getElem?_append_right (by rw [h0, Nat.succ_mul]; omega), ← this, List.getD_eq_getElem?_getD]
    congr 2
    rw [h0, Nat.succ_mul]; omega
theorem rep_flat {sz : Nat} {ys : List (List AV)} {new : Array Value} (hs : new.size = ys.length * sz) (hr : ∀ i j, i < ys.length → j < sz → RepV M ((ys.getD i []).getD j .undef) (new.getD (i * sz + j) Go.undef))
    (hl : ∀ i, i < ys.length → (ys.getD i []).length = sz) : RepL M ys.flatten new := by
  have hfl := flatten_len sz ys hl
  refine ⟨by rw [hs, hfl], fun q => ?_⟩
  by_cases hq : q < ys.length * sz
  · have hsz : 0 < sz := by
      rcases Nat.eq_zero_or_pos sz with h0 | h0
      · subst h0; simp at hq
      · exact h0
    have d1 : q / sz < ys.length := (Nat.div_lt_iff_lt_mul hsz).2 hq
    have d2 : q % sz < sz := Nat.mod_lt _ hsz
    have := hr _ _ d1 d2
    rw [← flatten_get sz ys hl _ _ d1 d2, Nat.div_add_mod'] at this
    exact this
  · rw [List.getD_eq_getElem?_getD, List.getElem?_eq_none (by omega)]; exact .undef _
/-- Cells out of an object. -/
theorem run_cells_of {id : Nat} {t : TypeId} {cs : List AV} {arr : Array Value} {wt : TypeId × Nat × Nat} (h1 : w.heap[M.pos id]? = some (.cells arr t (0, 0))) (h : RepL M cs arr) (off m : Nat) (hm : off + m ≤ cs.length) :
    (∀ w', w'.heap = w.heap → (loadCells ⟨M.pos id, off, none⟩ m).run P w' = .ok (arr.extract off (off + m)) w') ∧ RepL M ((cs.drop off).take m) (arr.extract off (off + m)) := by
  refine ⟨fun w' hw => ?_, h.extract off m⟩
  rw [run_loadCells' (w := w') _ (fun j => arr.getD (off + j) Go.undef) m fun j hj => ?_]
  · congr 1
    have hs := h.1
    apply Array.ext
    · simp; omega
    · intro i h1 h2
      have : off + i < arr.size := by simp at h1; omega
      simp [this]
  · rw [addr_add]
    have hc := cell_of_row w (M.pos id) (off + j) arr t (0, 0) h1
    have : w'.cell? ⟨M.pos id, off + j, none⟩ = w.cell? ⟨M.pos id, off + j, none⟩ := by simp only [World.cell?, hw]
    rw [this, hc]
    have := h.1
    have : off + j < arr.size := by omega
    simp [this]

theorem st_next_none (hI : Inv B w0 M st w) : st M.next = none := by
  cases hs : st M.next with
  | none => rfl
  | some o => have := hI.dom _ _ hs; omega
/-- A new row. -/
theorem inv_row (hI : Inv B w0 M st w) (t : TypeId) {cs : List AV} {arr : Array Value} (hr : RepL M cs arr) (sz m c : Nat) (hmc : m ≤ c) (hc : c ≤ maxLen) :
    ∃ M', M.le M' ∧ Inv B w0 M' (st.upd M.next (.cells t cs)) (w.alloc (.cells arr t (0, 0))) ∧ RepV M' (.rowp M.next 0 sz m c) (.slice (some ⟨w.heap.size, 0, none⟩) m c) := by
  obtain ⟨M', h1, h2, h3⟩ := inv_new hI t hr
  refine ⟨M', h1, h2, ?_⟩
  have hd := h2.dom M.next (.cells t cs) (by simp [St.upd])
  have hp : M'.pos M.next = w.heap.size := by
    generalize hv : Value.pointer (some ⟨w.heap.size, 0, none⟩) = v at h3
    cases h3
    injection hv with hv; injection hv with hv; injection hv with hv; exact hv.symm
  have := RepV.rowp (M := M') M.next 0 sz m c hd hmc hc
  rwa [hp] at this
theorem RepL.drewM {cs : List AV} {arr : Array Value} (h : RepL M cs arr) : RepL M cs arr := h

theorem sound_app0' (hI : Inv B w0 M st w) {t t' ty e : TypeId} {ie : TI} (hu : ∃ i, tiOf P t = some i ∧ i.k = .slice e) (hu' : ∃ i e', tiOf P t' = some i ∧ i.k = .slice e') (he : tiOf P e = some ie)
    {sz sz' : Nat} {ys : List (List AV)} {oy : Own} {v y : Value} (hv : RepV M (.list sz [] .clip) v) (hy : RepV M (.list sz' ys oy) y)
    (hz : ie.zero.length = ie.size) (hs' : ys = [] ∨ sz' = ie.size)
    (hb : ys.length * ie.bytes ≤ 140737488355328) (h63 : ys.length ≤ 9223372036854775807)
    {z0 : AV} (hz0 : ∀ base, RepV M z0 (.slice base 0 0)) (hK0 : ys = [] → K z0 st) (hK : ys ≠ [] → ∀ id c, st id = none → ys.length ≤ c → c ≤ maxLen → K (.rowp id 0 ie.size ys.length c) (st.upd id (.cells e (ys.flatten ++ List.replicate ((c - ys.length) * ie.size) .undef)))) :
    ∃ r w' M' z st', (Builtin.append_ #[t, t'] ty #[v, y]).run P w = .ok r w' ∧ M.le M' ∧ Inv B w0 M' st' w' ∧ RepV M' z r ∧ K z st' := by
  obtain ⟨base, cap, hve, old, hos, hor, hold, hxl⟩ := rows_read (P := P) hI hv ie.size (.inl rfl)
  obtain ⟨by_, cy, hye, new, hns, hnr, hnew, hyl⟩ := rows_read (P := P) hI hy ie.size hs'
  have hshape := run_append_shape (ty := ty) (w := w) hu hu' he base 0 cap y ys.length by_ cy hye new
  simp only [List.length_nil] at hve hor hos
  rw [hve]
  rw [hve] at hv hor
  have hcap0 : cap = 0 := by
    rcases rep_open hv with ⟨_, _, h, _⟩ | ⟨ad, g, _, _, _, _, _, hoo⟩
    · exact h
    · simpa [OwnOk] using hoo
  subst hcap0
  by_cases hy0 : ys = []
  · subst hy0
    have hn0 : new = #[] := Array.size_eq_zero_iff.1 (by simpa using hns)
    subst hn0
    have hrun := hshape.1 (Nat.le_refl _) hnr
    refine ⟨.slice base 0 0, w, M, z0, st, ?_, .refl M, hI, hz0 _, hK0 rfl⟩
    rw [hrun]; cases base <;> simp [storeCells]
  · have hpos : 0 < ys.length := List.length_pos_iff.2 hy0
    obtain ⟨cap', rest, hc1, hc2, hrs, hrun⟩ := hshape.2 (by omega) hnr old hor (by omega) (by simpa using hb)
    have ho0 : old = #[] := Array.size_eq_zero_iff.1 (by simpa using hos)
    subst ho0
    simp only [Nat.zero_add] at hrun hc1 hrs
    have hI1 := hI.drew
    have hflat : RepL M (ys.flatten ++ List.replicate ((cap' - ys.length) * ie.size) .undef) (#[] ++ new ++ rest) := by
      rw [Array.empty_append]
      exact RepL.app (rep_flat hns hnew hyl) (RepL.pad M _ _ (by rw [hrs, hz]))
    obtain ⟨M', k1, k2, k3⟩ := inv_row hI1 e hflat ie.size ys.length cap' hc1 hc2
    exact ⟨_, _, M', _, _, hrun, k1, k2, k3, hK hy0 _ _ (st_next_none hI) hc1 hc2⟩

theorem nil_rep (M : Mem) (sz : Nat) (base : Option Addr) : RepV M (.list sz [] .clip) (.slice base 0 0) := by
  cases base with
  | none => exact .nils _ _ (fun _ h => by cases h)
  | some a => exact .list sz [] .clip _ 0 (fun _ _ => Go.undef) (fun i j hi => by simp at hi) (fun i j => .undef _) (fun i hi => by simp at hi) (Nat.le_refl _) (by unfold maxLen; omega) rfl
theorem sound_appr (hI : Inv B w0 M st w) {t t' ty e : TypeId} {ie : TI} (hu : ∃ i, tiOf P t = some i ∧ i.k = .slice e) (hu' : ∃ i e', tiOf P t' = some i ∧ i.k = .slice e') (he : tiOf P e = some ie)
    {sz' id off c m : Nat} {ys : List (List AV)} {oy : Own} {v y : Value} (hv : RepV M (.rowp id off ie.size m c) v) (hy : RepV M (.list sz' ys oy) y)
    (h0 : 0 < ie.size) (hz : ie.zero.length = ie.size) (hs' : ys = [] ∨ sz' = ie.size) (hone : (ys.all fun y => y.all AV.one) = true)
    (hb : (m + ys.length) * ie.bytes ≤ 140737488355328) (h63 : m + ys.length ≤ 9223372036854775807) {b' : Nat}
    (h : resK P (.appr e ie.size b' id off m c ys) st K) :
    ∃ r w' M' z st', (Builtin.append_ #[t, t'] ty #[v, y]).run P w = .ok r w' ∧ M.le M' ∧ Inv B w0 M' st' w' ∧ RepV M' z r ∧ K z st' := by
  unfold resK at h
  split at h
  all_goals first | (rename_i e; cases e; done) | skip
  rename_i e9
  injection e9 with e1 e2 e3 e4 e5 e6 e7 e8
  subst e1 e2 e3 e4 e5 e6 e7 e8
  by_cases hc0 : c = 0
  · rw [if_pos hc0] at h
    obtain ⟨rfl, hK0, hK⟩ := h
    subst hc0
    have hsub : RepV M (.list ie.size [] .clip) v := by
      generalize hvv : v = vv at hv
      generalize hn : (0 : Nat) = nn at hv
      cases hv with
      | rowp _ _ _ _ _ hid hmc hcm => subst hn; exact .list ie.size [] .clip _ 0 (fun _ _ => Go.undef) (fun i j hi => by simp at hi) (fun i j => .undef _) (fun i hi => by simp at hi) (Nat.le_refl _) (by unfold maxLen; omega) rfl
      | rowp0 _ _ _ b =>
        cases b with
        | none => exact .nils _ _ (fun _ h => by cases h)
        | some a => exact .list ie.size [] .clip _ 0 (fun _ _ => Go.undef) (fun i j hi => by simp at hi) (fun i j => .undef _) (fun i hi => by simp at hi) (Nat.le_refl _) (by unfold maxLen; omega) rfl
    refine sound_app0' (ty := ty) hI hu hu' he hsub hy hz hs' (by simpa using hb) (by simpa using h63) (fun base => .rowp0 _ _ _ base) hK0 hK
  rw [if_neg hc0] at h
  split at h
  case h_2 => exact h.elim
  rename_i tt cs hst
  obtain ⟨g1, g2, g3, hin, hout⟩ := h
  obtain ⟨_, arr, a1, a2, a3, a4⟩ := hI.obj id _ hst
  obtain ⟨by_, cy, hye, new, hns, hnr, hnew, hyl⟩ := rows_read (P := P) hI hy ie.size hs'
  generalize hvv : v = vv at hv
  cases hv with
  | rowp0 => exact absurd rfl hc0
  | rowp _ _ _ _ _ hid hmc hcm =>
  subst hvv
  have hshape := run_append_shape (ty := ty) (w := w) hu hu' he (some ⟨M.pos id, off, none⟩) m c y ys.length by_ cy hye new
  have hnf := rep_flat (M := M) hns hnew hyl
  have hlen : new.size = ys.length * ie.size := hns
  have hcs : m * ie.size ≤ c * ie.size := Nat.mul_le_mul_right _ g2
  by_cases hle : m + ys.length ≤ c
  · have hrun := hshape.1 hle hnr
    have hle' : (m + ys.length) * ie.size ≤ c * ie.size := Nat.mul_le_mul_right _ hle
    rw [Nat.add_mul] at hle'
    have hfit : off + m * ie.size + 0 + new.toList.length ≤ arr.size := by
      have : new.toList.length = ys.length * ie.size := by simpa using hlen
      omega
    have honev : ∀ u ∈ new.toList, u.oneCell' = true := by
      refine mem_cells_one hnf ?_
      rw [List.all_eq_true]
      intro x hx
      obtain ⟨y, hy1, hy2⟩ := List.mem_flatten.1 hx
      exact List.all_eq_true.1 (List.all_eq_true.1 hone _ hy1) _ hy2
    have hst' := run_storeCells (P := P) tt (M.pos id) (off + m * ie.size) new.toList 0 arr w a1 honev hfit
    rw [Nat.add_zero] at hst'
    simp only [addr_add, hst', Result.andThen_ok] at hrun
    refine ⟨_, _, M, _, _, hrun, .refl M, hI.store (cs' := spliceL cs (off + m * ie.size) ys.flatten) hst arr (splice arr (off + m * ie.size) new.toList) a1 (RepL.splice ys.flatten new.toList ⟨a2, a3⟩ _ (by have := hnf.1; omega) (by simpa using hnf)), ?_, hin hle⟩
    exact RepV.rowp id off ie.size (m + ys.length) c hid hle hcm
  · have hold := run_cells_of (P := P) (wt := (0, 0, 0)) a1 ⟨a2, a3⟩ off (m * ie.size) (by omega)
    have hor : ∀ w', w'.heap = w.heap → (Builtin.firstCells ie.size m (.slice (some ⟨M.pos id, off, none⟩) m c)).run P w' = .ok (arr.extract off (off + m * ie.size)) w' := fun w' hw => hold.1 w' hw
    obtain ⟨cap', rest, hc1, hc2, hrs, hrun⟩ := hshape.2 hle hnr _ hor h63 hb
    have hI1 := hI.drew
    have hflat : RepL M ((cs.drop off).take (m * ie.size) ++ ys.flatten ++ List.replicate ((cap' - (m + ys.length)) * ie.size) .undef) (arr.extract off (off + m * ie.size) ++ new ++ rest) :=
      RepL.app (RepL.app hold.2 hnf) (RepL.pad M _ _ (by rw [hrs, hz]))
    obtain ⟨M', k1, k2, k3⟩ := inv_row hI1 e hflat ie.size (m + ys.length) cap' hc1 hc2
    exact ⟨_, _, M', _, _, hrun, k1, k2, k3, hout (by omega) _ _ (st_next_none hI) hc1 hc2⟩
end
end Go.Sh
