/- Shadow logic, part J: append. -/
import Derived.Test.YtdhmbpipjdapfaaGreatShI
namespace Go.Sh
open Go.RowKit
section
variable {P : Program} {B n : Nat} {w0 w : World} {M : Mem} {st : St} {K : AV → St → Prop} {env : Env} {a : Act}

theorem rep_row {sz : Nat} {ys : List (List AV)} {o : Own} {b cap : Nat} (arr : Array Value) (hF : ∀ q, q < ys.length * sz → M.F ⟨b, q, none⟩ = some (arr.getD q Go.undef))
    (hr : ∀ i j, i < ys.length → j < sz → RepV M ((ys.getD i []).getD j .undef) (arr.getD (i * sz + j) Go.undef)) (hl : ∀ i, i < ys.length → (ys.getD i []).length = sz)
    (hc : ys.length ≤ cap) (hm : cap ≤ maxLen) (ho : OwnOk M ⟨b, 0, none⟩ ys.length cap o) : RepV M (.list sz ys o) (.slice (some ⟨b, 0, none⟩) ys.length cap) := by
  refine .list sz ys o _ cap (fun i j => arr.getD (i * sz + j) Go.undef) (fun i j hi hj => ?_) (fun i j => ?_) hl hc hm ho
  · rw [addr_add, Nat.zero_add]
    refine hF _ ?_
    have : (i + 1) * sz ≤ ys.length * sz := Nat.mul_le_mul_right _ hi
    rw [Nat.succ_mul] at this
    omega
  · by_cases hi : i < ys.length
    · by_cases hj : j < sz
      · exact hr i j hi hj
      · have : (ys.getD i []).getD j .undef = .undef := by
          rw [List.getD_eq_getElem?_getD, List.getElem?_eq_none (by rw [hl i hi]; omega)]; rfl
        rw [this]; exact .undef _
    · have : ys.getD i [] = [] := by rw [List.getD_eq_getElem?_getD, List.getElem?_eq_none (by omega)]; rfl
      rw [this]; exact .undef _

/-- What a row's cells are. -/
theorem rows_read (hI : Inv B w0 M st w) {sz : Nat} {xs : List (List AV)} {o : Own} {v : Value} (h : RepV M (.list sz xs o) v) (size : Nat) (hs : xs = [] ∨ sz = size) :
    ∃ base cap, v = .slice base xs.length cap ∧ ∃ arr : Array Value, arr.size = xs.length * size ∧ (∀ w', w'.heap = w.heap → (Builtin.firstCells size xs.length v).run P w' = .ok arr w') ∧
      (∀ i j, i < xs.length → j < size → RepV M ((xs.getD i []).getD j .undef) (arr.getD (i * size + j) Go.undef)) ∧ (∀ i, i < xs.length → (xs.getD i []).length = size) := by
  match h with
  | .nils _ _ ho =>
    exact ⟨none, 0, rfl, #[], by simp, fun w' _ => by simp [Builtin.firstCells], fun i j hi => by simp at hi, fun i hi => by simp at hi⟩
  | .list _ _ _ ad cap g hF hg hl hc hm ho =>
    refine ⟨_, _, rfl, ((List.range (xs.length * size)).map fun q => g (q / size) (q % size)).toArray, by simp, fun w' hw => ?_, fun i j hi hj => ?_, fun i hi => ?_⟩
    · have : (Builtin.firstCells size xs.length (.slice (some ad) xs.length cap)).run P w' = (loadCells ad (xs.length * size)).run P w' := rfl
      rw [this]
      refine run_loadCells' ad _ _ fun q hq => ?_
      have hxs : xs ≠ [] := fun e => by subst e; simp at hq
      have he : sz = size := hs.resolve_left hxs
      subst he
      have hsz : 0 < sz := by
        rcases Nat.eq_zero_or_pos sz with h0 | h0
        · subst h0; simp at hq
        · exact h0
      have h1 : q / sz < xs.length := (Nat.div_lt_iff_lt_mul hsz).2 hq
      have h2 : q % sz < sz := Nat.mod_lt _ hsz
      have := hF (q / sz) (q % sz) h1 h2
      rw [Nat.div_add_mod'] at this
      have hc := hI.mem _ _ this
      simpa [World.cell?, hw] using hc
    · have hxs : xs ≠ [] := fun e => by subst e; simp at hi
      have he : sz = size := hs.resolve_left hxs
      subst he
      have hlt : i * sz + j < xs.length * sz := by
        have : (i + 1) * sz ≤ xs.length * sz := Nat.mul_le_mul_right _ hi
        rw [Nat.succ_mul] at this
        omega
      have e1 : (i * sz + j) / sz = i := by
        rw [Nat.mul_comm, Nat.mul_add_div (by omega), Nat.div_eq_of_lt hj, Nat.add_zero]
      have e2 : (i * sz + j) % sz = j := by
        rw [Nat.mul_comm, Nat.mul_add_mod, Nat.mod_eq_of_lt hj]
      rw [Array.getD_eq_getD_getElem?]
      simp only [List.getElem?_toArray, List.getElem?_map, List.getElem?_range hlt, Option.map_some, Option.getD_some, e1, e2]
      exact hg i j
    · have hxs : xs ≠ [] := fun e => by subst e; simp at hi
      rw [← hs.resolve_left hxs]
      exact hl i hi

theorem Inv.drew (hI : Inv B w0 M st w) : Inv B w0 M st w.drew :=
  ⟨hI.below.drew, hI.size, hI.mem, hI.dom, hI.inj, fun id o e => ⟨(hI.obj id o e).1, (hI.obj id o e).2.keep (.refl M) rfl fun _ _ => rfl⟩, hI.oth, hI.rnd⟩

theorem owns_none (hI : Inv B w0 M st w) {st0 : St} {e sz n : Nat} {o : Own} (h : Owns st0 e sz n o st) : st0 M.next = none := by
  cases o with
  | no => exact h.elim
  | clip =>
    simp only [Owns] at h
    subst h
    cases hs : st M.next with
    | none => rfl
    | some o => have := hI.dom _ _ hs; omega
  | op id =>
    obtain ⟨h1, h2⟩ := h
    subst h2
    cases hs : st0 M.next with
    | none => rfl
    | some o =>
      have hne : M.next ≠ id := fun e => by rw [e, h1] at hs; cases hs
      have := hI.dom M.next o (by simp [St.upd, hne, hs])
      omega
/-- What of the state is beside the owned row. -/
theorem owns_sub {st0 : St} {e sz n : Nat} {o : Own} (h : Owns st0 e sz n o st) (i : Nat) (x : AObj) (hi : st0 i = some x) : st i = some x ∧ (∀ id, o = .op id → i ≠ id) := by
  cases o with
  | no => exact h.elim
  | clip => simp only [Owns] at h; subst h; exact ⟨hi, fun _ e => by cases e⟩
  | op id =>
    obtain ⟨h1, h2⟩ := h
    subst h2
    have hne : i ≠ id := fun e => by rw [e, h1] at hi; cases hi
    exact ⟨by simp [St.upd, hne, hi], fun id' e => by injection e with e; rw [← e]; exact hne⟩

theorem run_append_shape {t t' ty e : TypeId} {ie : TI} (hu : ∃ i, tiOf P t = some i ∧ i.k = .slice e) (hu' : ∃ i e', tiOf P t' = some i ∧ i.k = .slice e') (he : tiOf P e = some ie)
    (base : Option Addr) (l c : Nat) (y : Value) (m : Nat) (by_ : Option Addr) (cy : Nat) (hy : y = .slice by_ m cy) (new : Array Value) :
    (l + m ≤ c → (∀ w', w'.heap = w.heap → (Builtin.firstCells ie.size m y).run P w' = .ok new w') →
      (Builtin.append_ #[t, t'] ty #[.slice base l c, y]).run P w = ((match base with | some a => storeCells (a.add (l * ie.size)) new.toList | none => pure () : Sem Unit).run P w).andThen fun _ w' => .ok (.slice base (l + m) c) w') ∧
    (¬ l + m ≤ c → (∀ w', w'.heap = w.heap → (Builtin.firstCells ie.size m y).run P w' = .ok new w') → ∀ old, (∀ w', w'.heap = w.heap → (Builtin.firstCells ie.size l (.slice base l c)).run P w' = .ok old w') →
      l + m ≤ 9223372036854775807 → (l + m) * ie.bytes ≤ 140737488355328 → ∃ cap rest, l + m ≤ cap ∧ cap ≤ maxLen ∧ rest.size = (cap - (l + m)) * ie.zero.length ∧
      (Builtin.append_ #[t, t'] ty #[.slice base l c, y]).run P w = .ok (.slice (some ⟨w.heap.size, 0, none⟩) (l + m) cap) (w.drew.alloc (.cells (old ++ new ++ rest) e (0, 0)))) := by
  obtain ⟨i, hi, hk⟩ := hu
  obtain ⟨i', e', hi', hk'⟩ := hu'
  obtain ⟨d, inf, z, h1, h2, h3, h4, h5, h6, h7⟩ := tiOf_some hi
  obtain ⟨d', inf', z', h1', h2', h3', h4', h5', h6', h7'⟩ := tiOf_some hi'
  obtain ⟨de, infe, ze, g1, g2, g3, g4, g5, g6, g7⟩ := tiOf_some he
  rw [hk] at h4
  rw [hk'] at h4'
  cases d <;> simp [tkOf] at h4
  cases d' <;> simp [tkOf] at h4'
  rw [h4] at h1
  rw [h4'] at h1'
  subst hy
  have hsz : ∀ w, (sizeOf e).run P w = .ok ie.size w := fun w => run_sizeOf' he
  constructor
  · intro hle hn
    have hf := hn w rfl
    cases base <;> simp [Builtin.append_, run_underlying h1, run_underlying h1', hsz, hle, hf, Builtin.lenOf]
  · intro hle hn old ho h63 hb
    have hf := hn w.drew rfl
    have hfo := ho w.drew rfl
    have h48 := growslice_fits (need := l + m) (old := c) (bytes := ie.bytes) (by omega) hb
    refine ⟨grownCap w (l + m) c e, Builtin.zeroCells ze.cells (grownCap w (l + m) c e - (l + m)), ?_, ?_, ?_, ?_⟩
    · unfold grownCap Question.cut; simp only; omega
    · unfold grownCap Question.cut maxLen; simp only
      have := Nat.mod_lt (w.tape w.drawn (.appendCap (l + m) c e)) (show 0 < 2 ^ 63 - (l + m) by omega)
      omega
    · simp [Builtin.zeroCells, ← g7]
    · have h63' : ¬ (9223372036854775807 < ((l : Int) + (m : Int))) := by omega
      have h48' : ¬ (281474976710656 < Builtin.nextslicecap (l + m) c * infe.bytes) := by rw [g6]; omega
      have hst : (sizeOf e).run P w = .ok ie.size w := hsz w
      simp [Builtin.append_, run_underlying h1, run_underlying h1', hst, typeInfo, zeroValue, g2, g3, Builtin.lenOf, hle, h63', h48', Question.forced, hf, hfo, newRow, grownCap]

theorem getD_append_left' (xs ys : List (List AV)) (i : Nat) (h : i < xs.length) : (xs ++ ys).getD i [] = xs.getD i [] := by
  rw [List.getD_eq_getElem?_getD, List.getElem?_append_left h, List.getD_eq_getElem?_getD]
theorem getD_append_right' (xs ys : List (List AV)) (i : Nat) (h : ¬ i < xs.length) : (xs ++ ys).getD i [] = ys.getD (i - xs.length) [] := by
  rw [List.getD_eq_getElem?_getD, List.getElem?_append_right (by omega), List.getD_eq_getElem?_getD]
theorem agetD_append (p q : Array Value) (k : Nat) : (p ++ q).getD k Go.undef = if k < p.size then p.getD k Go.undef else q.getD (k - p.size) Go.undef := by
  rw [Array.getD_eq_getD_getElem?, Array.getElem?_append]
  by_cases h : k < p.size
  · rw [if_pos h, if_pos h, Array.getD_eq_getD_getElem?]
  · rw [if_neg h, if_neg h, Array.getD_eq_getD_getElem?]

/-- The cells of two rows, one behind the other. -/
theorem rep_two {M : Mem} {size : Nat} {xs ys : List (List AV)} {p q : Array Value} (hp : p.size = xs.length * size) (hq : q.size = ys.length * size)
    (h1 : ∀ i j, i < xs.length → j < size → RepV M ((xs.getD i []).getD j .undef) (p.getD (i * size + j) Go.undef))
    (h2 : ∀ i j, i < ys.length → j < size → RepV M ((ys.getD i []).getD j .undef) (q.getD (i * size + j) Go.undef)) (r : Array Value) (i j : Nat) (hi : i < (xs ++ ys).length) (hj : j < size) :
    RepV M (((xs ++ ys).getD i []).getD j .undef) ((p ++ q ++ r).getD (i * size + j) Go.undef) := by
  have hb : i * size + j < (p ++ q).size := by
    rw [Array.size_append, hp, hq, ← Nat.add_mul, ← List.length_append]
    have : (i + 1) * size ≤ (xs ++ ys).length * size := Nat.mul_le_mul_right _ hi
    rw [Nat.succ_mul] at this
    omega
  rw [agetD_append, if_pos hb, agetD_append]
  by_cases hx : i < xs.length
  · have : i * size + j < p.size := by
      rw [hp]
      have : (i + 1) * size ≤ xs.length * size := Nat.mul_le_mul_right _ hx
      rw [Nat.succ_mul] at this
      omega
    rw [if_pos this, getD_append_left' _ _ _ hx]
    exact h1 i j hx hj
  · have : ¬ i * size + j < p.size := by
      rw [hp]
      have : xs.length * size ≤ i * size := Nat.mul_le_mul_right _ (by omega)
      omega
    rw [if_neg this, getD_append_right' _ _ _ hx]
    have e : i * size + j - p.size = (i - xs.length) * size + j := by
      rw [hp, Nat.sub_mul]
      have : xs.length * size ≤ i * size := Nat.mul_le_mul_right _ (by omega)
      omega
    rw [e]
    exact h2 _ j (by simp at hi; omega) hj

theorem rep_open {M : Mem} {sz : Nat} {xs : List (List AV)} {o : Own} {base : Option Addr} {n cap : Nat} (h : RepV M (.list sz xs o) (.slice base n cap)) :
    (base = none ∧ xs = [] ∧ cap = 0 ∧ ∀ id, o ≠ .op id) ∨ ∃ ad, ∃ g : Nat → Nat → Value, base = some ad ∧ (∀ i j, i < xs.length → j < sz → M.F (ad.add (i * sz + j)) = some (g i j)) ∧
      (∀ i j, RepV M ((xs.getD i []).getD j .undef) (g i j)) ∧ xs.length ≤ cap ∧ cap ≤ maxLen ∧ OwnOk M ad xs.length cap o := by
  generalize hv : Value.slice base n cap = v at h
  cases h with
  | nils _ _ ho => injection hv with h1 h2 h3; exact .inl ⟨h1, rfl, h3, ho⟩
  | list _ _ _ ad c g hF hg hl hc hm hoo => injection hv with h1 h2 h3; subst h3; exact .inr ⟨ad, g, h1, hF, hg, hc, hm, hoo⟩

set_option maxHeartbeats 1000000 in
theorem sound_app (hI : Inv B w0 M st w) {t t' ty e : TypeId} {ie : TI} (hu : ∃ i, tiOf P t = some i ∧ i.k = .slice e) (hu' : ∃ i e', tiOf P t' = some i ∧ i.k = .slice e') (he : tiOf P e = some ie)
    {sz sz' : Nat} {xs ys : List (List AV)} {o oy : Own} {v y : Value} (hv : RepV M (.list sz xs o) v) (hy : RepV M (.list sz' ys oy) y)
    (h0 : 0 < ie.size) (hz : ie.zero.length = ie.size) (hs : xs = [] ∨ sz = ie.size) (hs' : ys = [] ∨ sz' = ie.size) (hone : (ys.all fun y => y.all AV.one) = true)
    (hb : (xs.length + ys.length) * ie.bytes ≤ 140737488355328) (h63 : xs.length + ys.length ≤ 9223372036854775807)
    {st0 : St} (ho : Owns st0 e ie.size xs.length o st) (hK : ∀ o' st', Owns st0 e ie.size (xs.length + ys.length) o' st' → K (.list ie.size (xs ++ ys) o') st') :
    ∃ r w' M' z st', (Builtin.append_ #[t, t'] ty #[v, y]).run P w = .ok r w' ∧ M.le M' ∧ Inv B w0 M' st' w' ∧ RepV M' z r ∧ K z st' := by
  obtain ⟨base, cap, hve, old, hos, hor, hold, hxl⟩ := rows_read (P := P) hI hv ie.size hs
  obtain ⟨by_, cy, hye, new, hns, hnr, hnew, hyl⟩ := rows_read (P := P) hI hy ie.size hs'
  have hshape := run_append_shape (ty := ty) (w := w) hu hu' he base xs.length cap y ys.length by_ cy hye new
  rw [hve]
  rw [hve] at hv hor
  rw [hye] at hnr
  rw [← hye] at hnr
  have hll : ∀ i, i < (xs ++ ys).length → ((xs ++ ys).getD i []).length = ie.size := by
    intro i hi
    by_cases hx : i < xs.length
    · rw [getD_append_left' _ _ _ hx]; exact hxl i hx
    · rw [getD_append_right' _ _ _ hx]; exact hyl _ (by simp at hi; omega)
  have hnone := owns_none hI ho
  by_cases hle : xs.length + ys.length ≤ cap
  · have hrun := hshape.1 hle hnr
    rcases Nat.eq_zero_or_pos ys.length with hy0 | hy0
    · -- nothing is appended
      have hyn : ys = [] := List.length_eq_zero_iff.1 hy0
      subst hyn
      have hn0 : new = #[] := by
        have : new.size = 0 := by simpa using hns
        exact Array.size_eq_zero_iff.1 this
      subst hn0
      refine ⟨.slice base xs.length cap, w, M, .list ie.size xs o, st, ?_, .refl M, hI, ?_, ?_⟩
      · rw [hrun]
        cases base <;> simp [storeCells]
      · rcases hs with hx | hx
        · subst hx
          cases hv with
          | nils _ _ ho => exact .nils _ _ ho
          | list _ _ _ ad cap g hF hg hl hc hm ho => exact .list _ _ _ ad cap g (fun i j hi => by simp at hi) hg (fun i hi => by simp at hi) hc hm ho
        · rw [← hx]; exact hv
      · have := hK o st (by simpa using ho)
        simpa using this
    · -- in place
      rcases rep_open hv with ⟨_, hx0, hc0, _⟩ | ⟨ad, g, hbase, hF, hg, hc, hm, hoo⟩
      · subst hx0; simp only [List.length_nil] at hle; omega
      cases o with
      | no => exact ho.elim
      | clip => simp only [OwnOk] at hoo; omega
      | op id =>
        obtain ⟨ha, hcap, hid⟩ := hoo
        obtain ⟨ho1, ho2⟩ := ho
        have hsid : st id = some (.spare e ie.size xs.length) := by rw [ho2]; simp [St.upd]
        obtain ⟨hB, arr, g1, g2, g3, g4, g5⟩ := hI.obj id _ hsid
        subst ha hbase
        have hlen : new.size = ys.length * ie.size := hns
        have hfit : xs.length * ie.size + 0 + new.toList.length ≤ arr.size := by
          have e0 : new.toList.length = ys.length * ie.size := by simpa using hns
          rw [g2, ← hcap, e0, Nat.add_zero, ← Nat.add_mul]
          exact Nat.mul_le_mul_right _ hle
        have honev : ∀ u ∈ new.toList, u.oneCell' = true := by
          intro u hu
          obtain ⟨q, hq, rfl⟩ := List.getElem_of_mem hu
          have hq' : q < ys.length * ie.size := by rw [← hlen]; simpa using hq
          have d1 : q / ie.size < ys.length := (Nat.div_lt_iff_lt_mul h0).2 hq'
          have d2 : q % ie.size < ie.size := Nat.mod_lt _ h0
          have hr := hnew _ _ d1 d2
          rw [Nat.div_add_mod', Array.getD_eq_getD_getElem?, Array.getElem?_eq_getElem (by omega), Option.getD_some] at hr
          rw [Array.getElem_toList]
          refine hr.one ?_
          have hl1 := hyl _ d1
          rw [List.getD_eq_getElem?_getD (l := ys), List.getElem?_eq_getElem d1, Option.getD_some] at hl1 ⊢
          rw [List.getD_eq_getElem?_getD, List.getElem?_eq_getElem (by omega), Option.getD_some]
          exact List.all_eq_true.1 (List.all_eq_true.1 hone _ (List.getElem_mem d1)) _ (List.getElem_mem _)
        have hst := run_storeCells (P := P) e (M.pos id) (xs.length * ie.size) new.toList 0 arr w g1 honev hfit
        rw [Nat.add_zero] at hst
        simp only [addr_add, Nat.zero_add, hst, Result.andThen_ok] at hrun
        have hgs : ∀ (vs : List Value) (ar : Array Value) (k q : Nat), (splice ar k vs)[q]? = if k ≤ q ∧ q < k + vs.length ∧ q < ar.size then vs[q - k]? else ar[q]? := by
          intro vs
          induction vs with
          | nil => intro ar k q; simp [splice]; omega
          | cons u vs ih =>
            intro ar k q
            simp only [splice, ih, Array.size_setIfInBounds, List.length_cons]
            by_cases c1 : k + 1 ≤ q ∧ q < k + 1 + vs.length ∧ q < ar.size
            · rw [if_pos c1, if_pos (by omega)]
              rw [show q - k = (q - (k + 1)) + 1 by omega, List.getElem?_cons_succ]
            · rw [if_neg c1, Array.getElem?_setIfInBounds]
              by_cases c2 : k = q
              · subst c2
                by_cases c3 : k < ar.size
                · rw [if_pos rfl, if_pos c3, if_pos (by omega)]; simp
                · rw [if_pos rfl, if_neg c3, if_neg (by omega)]; rw [Array.getElem?_eq_none (by omega)]
              · rw [if_neg c2, if_neg (by omega)]
        have hcapn : cap * ie.size = arr.size := by rw [g2, hcap]
        have hput := hI.put (st' := st0.upd M.next (.spare e ie.size (xs.length + ys.length))) hsid e arr (splice arr (xs.length * ie.size) new.toList) g1 (xs.length * ie.size) ((xs.length + ys.length) * ie.size) cap g5
          (fun j hj => by rw [hgs]; rw [if_neg (by omega)])
          (fun i o' hi => by
            simp only [St.upd] at hi
            split at hi
            · rename_i e1
              injection hi with hi
              subst hi
              refine .inr ⟨e1, splice arr (xs.length * ie.size) new.toList, heap_putRow _ _ _ _ (Array.getElem?_eq_some_iff.1 g1).1, by rw [size_splice]; omega, hle, hm, fun a ha hoff => ?_⟩
              simp only [Mem.gain]
              have : xs.length * ie.size ≤ a.off := Nat.le_trans (Nat.mul_le_mul_right _ (by omega)) hoff
              rw [if_pos ⟨ha, this⟩, if_neg (by omega)]
            · rename_i e1
              have hne : i ≠ id := fun e => by rw [e, ho1] at hi; cases hi
              exact .inl ⟨e1, hne, by rw [ho2]; simp [St.upd, hne, hi]⟩)
        obtain ⟨hle', hI'⟩ := hput
        refine ⟨_, _, _, .list ie.size (xs ++ ys) (.op M.next), _, hrun, hle', hI', ?_, hK _ _ ⟨hnone, rfl⟩⟩
        have hnl : new.toList.length = ys.length * ie.size := by simpa using hlen
        have := rep_row (M := M.gain (M.pos id) (xs.length * ie.size) ((xs.length + ys.length) * ie.size) cap (splice arr (xs.length * ie.size) new.toList)) (sz := ie.size) (ys := xs ++ ys) (o := .op M.next) (b := M.pos id) (cap := cap)
          (splice arr (xs.length * ie.size) new.toList)
          (fun q hq => by
            rw [List.length_append] at hq
            by_cases hql : xs.length * ie.size ≤ q
            · simp only [Mem.gain]
              have hqa : q < (splice arr (xs.length * ie.size) new.toList).size := by
                rw [size_splice, g2, ← hcap]; exact Nat.lt_of_lt_of_le hq (Nat.mul_le_mul_right _ hle)
              rw [if_pos ⟨trivial, hql⟩, if_pos ⟨trivial, hq⟩, Array.getD_eq_getD_getElem?, Array.getElem?_eq_getElem hqa, Option.getD_some]
            · simp only [Mem.gain]
              rw [if_neg (by omega)]
              have d1 : q / ie.size < xs.length := (Nat.div_lt_iff_lt_mul h0).2 (by omega)
              have d2 : q % ie.size < ie.size := Nat.mod_lt _ h0
              have hxs : xs ≠ [] := fun e => by subst e; simp at d1
              have hse : sz = ie.size := hs.resolve_left hxs
              have hFq := hF (q / ie.size) (q % ie.size) d1 (by rw [hse]; exact d2)
              rw [hse, Nat.div_add_mod', addr_add, Nat.zero_add] at hFq
              rw [hFq]
              have hcq := hI.mem _ _ hFq
              rw [cell_of_row w _ _ _ _ _ g1] at hcq
              rw [Array.getD_eq_getD_getElem?, hgs, if_neg (by omega), hcq]; rfl)
          (fun i j hi hj => by
            have hr := rep_two (M := M) (size := ie.size) hos hns hold hnew (#[] : Array Value) i j hi hj
            have hlt : i * ie.size + j < (xs.length + ys.length) * ie.size := by
              rw [List.length_append] at hi
              have : (i + 1) * ie.size ≤ (xs.length + ys.length) * ie.size := Nat.mul_le_mul_right _ hi
              rw [Nat.succ_mul] at this
              omega
            have hadd : (xs.length + ys.length) * ie.size = xs.length * ie.size + ys.length * ie.size := Nat.add_mul ..
            have hcle : (xs.length + ys.length) * ie.size ≤ arr.size := by rw [← hcapn]; exact Nat.mul_le_mul_right _ hle
            refine RepV.mono hle' ?_
            by_cases hx : i < xs.length
            · have hlx : i * ie.size + j < xs.length * ie.size := by
                have : (i + 1) * ie.size ≤ xs.length * ie.size := Nat.mul_le_mul_right _ hx
                rw [Nat.succ_mul] at this
                omega
              have hxs : xs ≠ [] := fun e => by subst e; simp at hx
              have hse : sz = ie.size := hs.resolve_left hxs
              have hFq := hF i j hx (by rw [hse]; exact hj)
              rw [hse, addr_add, Nat.zero_add] at hFq
              have hcq := hI.mem _ _ hFq
              rw [cell_of_row w _ _ _ _ _ g1] at hcq
              rw [Array.getD_eq_getD_getElem?, hgs, if_neg (by omega), hcq, Option.getD_some, getD_append_left' _ _ _ hx]
              exact hg i j
            · have hlx : xs.length * ie.size ≤ i * ie.size + j := Nat.le_trans (Nat.mul_le_mul_right _ (by omega)) (Nat.le_add_right _ _)
              rw [Array.append_empty, agetD_append, if_neg (by rw [hos]; omega), hos] at hr
              rw [Array.getD_eq_getD_getElem?, hgs, if_pos (by omega), Array.getElem?_toList]
              rw [Array.getD_eq_getD_getElem?] at hr
              exact hr)
          hll (by simpa using hle) hm (by simp [OwnOk, Mem.gain])
        rw [List.length_append] at this
        exact this
  · -- a new row
    obtain ⟨cap', rest, hc1, hc2, hrs, hrun⟩ := hshape.2 hle hnr old hor h63 hb
    have hI1 := hI.drew
    have hsize : (old ++ new ++ rest).size = cap' * ie.size := by
      rw [Array.size_append, Array.size_append, hos, hns, hrs, hz, ← Nat.add_mul, ← Nat.add_mul]
      congr 1
      omega
    have hle1 := hI1.grow_le ((xs.length + ys.length) * ie.size) cap' (old ++ new ++ rest)
    have hI2 := hI1.alloc (st' := st0.upd M.next (.spare e ie.size (xs.length + ys.length))) e ((xs.length + ys.length) * ie.size) cap' (old ++ new ++ rest)
      (fun id x hx => by
        simp only [St.upd] at hx
        split at hx
        · rename_i e1
          injection hx with hx
          subst hx
          refine .inr ⟨e1, old ++ new ++ rest, by rw [heap_alloc, if_pos rfl], hsize, hc1, hc2, fun a ha hoff => ?_⟩
          simp only [Mem.grow]
          rw [if_pos ha, if_neg (by omega)]
        · rename_i e1
          exact .inl ⟨e1, (owns_sub ho id x hx).1⟩)
    refine ⟨_, _, _, .list ie.size (xs ++ ys) (.op M.next), _, hrun, hle1, hI2, ?_, hK _ _ ⟨hnone, rfl⟩⟩
    have hws : w.drew.heap.size = w.heap.size := rfl
    have := rep_row (M := M.grow w.heap.size ((xs.length + ys.length) * ie.size) cap' (old ++ new ++ rest)) (sz := ie.size) (ys := xs ++ ys) (o := .op M.next) (b := w.heap.size) (cap := cap')
      (old ++ new ++ rest)
      (fun q hq => by
        rw [List.length_append] at hq
        simp only [Mem.grow, if_true]
        have hqa : q < (old ++ new ++ rest).size := by rw [hsize]; exact Nat.lt_of_lt_of_le hq (Nat.mul_le_mul_right _ hc1)
        rw [if_pos ⟨trivial, hq⟩, Array.getD_eq_getD_getElem?, Array.getElem?_eq_getElem hqa, Option.getD_some])
      (fun i j hi hj => (rep_two hos hns hold hnew rest i j hi hj).mono hle1)
      hll (by simpa using hc1) hc2 (by simp [OwnOk, Mem.grow])
    rw [List.length_append] at this
    exact this
end
end Go.Sh
