/- Shadow logic, part I: literals of structs and rows, appends. -/
import Derived.Test.YtdhmbpipjdapfaaGreatShH
namespace Go.Sh
open Go.RowKit
section
variable {P : Program} {B n : Nat} {w0 w : World} {M : Mem} {st : St} {K : AV → St → Prop} {env : Env} {a : Act}

theorem rep_zero {t : TypeId} {i : TI} (ht : tiOf P t = some i) (M : Mem) : ∃ z, (zeroValue t).run P w = .ok z w ∧ RepL M i.zero z.cells := by
  obtain ⟨z, h1, h2⟩ := run_zeroValue' (w := w) ht
  exact ⟨z, h1, by rw [← h2]; exact RepL.ofZero M z.cells⟩

theorem run_mapM_places (fs : Array Field) (hall : ∀ f ∈ fs.toList, (tiOf P f.type).isSome) :
    (fs.mapM (m := Sem) fun f => do pure (f.offset, ← sizeOf f.type)).run P w = .ok (fs.map fun f => (f.offset, ((tiOf P f.type).map (·.size)).getD 0)) w := by
  rw [Array.mapM_eq_mapM_toList]
  have key : ∀ l : List Field, (∀ f ∈ l, (tiOf P f.type).isSome) → (l.mapM (m := Sem) fun f => do pure (f.offset, ← sizeOf f.type)).run P w = .ok (l.map fun f => (f.offset, ((tiOf P f.type).map (·.size)).getD 0)) w := by
    intro l
    induction l with
    | nil => intro _; simp
    | cons f l ih =>
      intro h
      obtain ⟨i, hi⟩ := Option.isSome_iff_exists.1 (h f (by simp))
      rw [List.mapM_cons]
      simp only [Sem.run_bind, run_sizeOf' hi, Result.andThen_ok, Sem.run_pure, ih (fun g hg => h g (by simp [hg]))]
      simp [hi]
  simp only [Sem.run_map, key fs.toList hall, Result.andThen_ok]
  congr 1
  apply Array.ext'
  simp

theorem sound_build (hE : RepE M n env a) {t : TypeId} {parts : Array (Nat × Operand)} {i : TI} (ht : tiOf P t = some i) {fs : List (Nat × TypeId)} (hk : i.k = .struct fs) (hall : hasAll P fs = true)
    {cs : List AV} (hf : fillAV (placeS P fs) i.zero (parts.toList.map fun (j, x) => (j, env.op x)) = some cs) :
    ∃ r, (Instr.build t (parts.map fun (j, x) => (j, a.eval x))).run P w = .ok r w ∧ RepV M (.agg cs) r := by
  obtain ⟨d, inf, z0, h1, h2, h3, h4, h5, h6, h7⟩ := tiOf_some ht
  obtain ⟨z, hz, hzr⟩ := rep_zero (P := P) (w := w) ht M
  rw [hk] at h4
  cases d <;> simp [tkOf] at h4
  rename_i fields
  have hallf : ∀ f ∈ fields.toList, (tiOf P f.type).isSome := by
    intro f hf'
    have := List.all_eq_true.1 hall (f.offset, f.type) (by rw [← h4]; exact List.mem_map.2 ⟨f, hf', rfl⟩)
    exact this
  have hpl := run_mapM_places (P := P) (w := w) fields hallf
  have hplace : ∀ j, (fields.map fun f => (f.offset, ((tiOf P f.type).map (·.size)).getD 0))[j]? = placeS P fs j := by
    intro j
    unfold placeS
    rw [← h4]
    simp only [Array.getElem?_map, List.getElem?_map, Array.getElem?_toList]
    cases hfj : fields[j]? with
    | none => simp
    | some f =>
      obtain ⟨ti, hti⟩ := Option.isSome_iff_exists.1 (hallf f (by obtain ⟨hj, he⟩ := Array.getElem?_eq_some_iff.1 hfj; rw [← he]; exact Array.mem_toList_iff.2 (Array.getElem_mem hj)))
      simp [hti]
  obtain ⟨arr', hfill, hr⟩ := fill_rep (placeS P fs) (parts.toList.map fun (j, x) => (j, env.op x)) (parts.map fun (j, x) => (j, a.eval x)).toList i.zero z.cells cs hzr (by simp [Function.comp_def])
    (fun j p q hp hq => by
      simp only [List.getElem?_map, Array.toList_map, Array.getElem?_toList] at hp hq
      cases hpj : parts[j]? with
      | none => simp [hpj] at hp
      | some pp => simp [hpj] at hp hq; subst hp hq; exact hE.op pp.2) hf
  refine ⟨.agg arr', ?_, .agg _ _ hr.1 hr.2⟩
  simp only [Instr.build, Sem.run_bind, hz, Result.andThen_ok, run_underlying h1, hpl]
  have : (fun x => (fields.map fun f => (f.offset, ((tiOf P f.type).map (·.size)).getD 0))[x]?) = placeS P fs := funext hplace
  rw [this, hfill]
  rfl

theorem getD_flatten_chunks (sz : Nat) (flat : List AV) (m : Nat) (i j : Nat) (hj : j < sz) (hi : i < m) :
    ((chunks sz flat m).getD i []).getD j .undef = flat.getD (i * sz + j) .undef := by
  unfold chunks
  rw [List.getD_eq_getElem?_getD (l := List.map _ _), List.getElem?_map, List.getElem?_range hi]
  simp only [Option.map_some, Option.getD_some]
  rw [getD_take, if_pos hj, getD_drop]
theorem zeros_cells (z : Array Value) (len : Nat) (hz : 0 < z.size) (zl : List AV) (hr : RepL M zl z) :
    RepL M (List.replicate len zl).flatten ((Array.range (len * z.size)).map (z[· % z.size]!)) := by
  have hl : (List.replicate len zl).flatten.length = len * z.size := by
    rw [List.length_flatten, List.map_replicate, List.sum_replicate_nat, hr.1]
  refine ⟨by simp [hl], fun j => ?_⟩
  by_cases hj : j < len * z.size
  · have e1 : (List.replicate len zl).flatten.getD j .undef = zl.getD (j % z.size) .undef := by
      rw [List.getD_eq_getElem?_getD, List.getD_eq_getElem?_getD]
      congr 1
      have : ∀ (len j : Nat), j < len * z.size → (List.replicate len zl).flatten[j]? = zl[j % z.size]? := by
        intro len
        induction len with
        | zero => intro j hj; simp at hj
        | succ len ih =>
          intro j hj
          rw [List.replicate_succ, List.flatten_cons]
          by_cases hlt : j < zl.length
          · rw [List.getElem?_append_left hlt, Nat.mod_eq_of_lt (by rw [hr.1]; exact hlt)]
          · rw [List.getElem?_append_right (by omega)]
            have hs := hr.1
            rw [ih (j - zl.length) (by rw [Nat.succ_mul] at hj; omega), ← hs, ← Nat.mod_eq_sub_mod (by omega)]
      exact this len j hj
    rw [e1]
    have hm := Nat.mod_lt j hz
    have := hr.2 (j % z.size)
    rw [Array.getD_eq_getD_getElem?]
    rw [Array.getElem?_map, Array.getElem?_range, if_pos hj]
    rw [Array.getD_eq_getD_getElem?] at this
    simpa [hm] using this
  · have h1 : (List.replicate len zl).flatten[j]? = none := by rw [List.getElem?_eq_none]; omega
    rw [List.getD_eq_getElem?_getD, h1]
    exact .undef _
/-- A row that never changes, in a new block. -/
theorem inv_lit (hI : Inv B w0 M st w) (t : TypeId) {flat : List AV} {arr : Array Value} (hr : RepL M flat arr) (sz m : Nat) (hsz : 0 < sz) (hl : flat.length = m * sz) (hm : m ≤ maxLen) :
    ∃ M', M.le M' ∧ Inv B w0 M' st (w.alloc (.cells arr t (0, 0))) ∧ RepV M' (.list sz (chunks sz flat m) .clip) (.slice (some ⟨w.heap.size, 0, none⟩) m m) := by
  have hle := hI.grow_le arr.size 0 arr
  refine ⟨M.grow w.heap.size arr.size 0 arr, hle, hI.alloc t arr.size 0 arr fun id o e => ?_, ?_⟩
  · have := hI.dom id o e
    exact .inl ⟨by omega, e⟩
  · have hlen : (chunks sz flat m).length = m := by simp [chunks]
    have hbound : ∀ i j, i < m → j < sz → i * sz + j < arr.size := by
      intro i j hi hj
      rw [hr.1, hl]
      have : (i + 1) * sz ≤ m * sz := Nat.mul_le_mul_right _ hi
      rw [Nat.succ_mul] at this
      omega
    have := RepV.list (M := M.grow w.heap.size arr.size 0 arr) sz (chunks sz flat m) .clip ⟨w.heap.size, 0, none⟩ m (fun i j => arr.getD (i * sz + j) Go.undef)
      (fun i j hi hj => by
        rw [hlen] at hi
        have hb := hbound i j hi hj
        rw [addr_add]
        simp only [Mem.grow, Nat.zero_add, true_and, if_true]
        rw [if_pos hb]
        simp [hb])
      (fun i j => by
        by_cases hi : i < m
        · by_cases hj : j < sz
          · rw [getD_flatten_chunks sz flat m i j hj hi]
            exact (hr.2 _).mono hle
          · have : ((chunks sz flat m).getD i []).getD j .undef = .undef := by
              unfold chunks
              rw [List.getD_eq_getElem?_getD (l := List.map _ _), List.getElem?_map, List.getElem?_range hi]
              simp only [Option.map_some, Option.getD_some]
              rw [getD_take, if_neg hj]
            rw [this]; exact .undef _
        · have : (chunks sz flat m).getD i [] = [] := by
            rw [List.getD_eq_getElem?_getD, List.getElem?_eq_none (by omega)]; rfl
          rw [this]; exact .undef _)
      (fun i hi => by
        rw [hlen] at hi
        unfold chunks
        rw [List.getD_eq_getElem?_getD (l := List.map _ _), List.getElem?_map, List.getElem?_range hi]
        simp only [Option.map_some, Option.getD_some, List.length_take, List.length_drop, hl]
        have : (i + 1) * sz ≤ m * sz := Nat.mul_le_mul_right _ hi
        rw [Nat.succ_mul] at this
        omega)
      (by omega) hm (by simp [OwnOk, hlen])
    rw [hlen] at this
    exact this
end
end Go.Sh
