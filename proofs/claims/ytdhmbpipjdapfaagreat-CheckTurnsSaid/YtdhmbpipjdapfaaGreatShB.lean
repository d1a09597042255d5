/- Shadow logic, part B: types, and how the machine's small steps run over represented values. -/
import Derived.Test.YtdhmbpipjdapfaaGreatShA
import Derived.Laws.Sem
import Derived.Laws.Entries
import Derived.Laws.Rows
namespace Go.Sh
open Go.RowKit

inductive TK where
  | int (k : IntKind) | bool | string
  | struct (fs : List (Nat × TypeId))
  | slice (e : TypeId) | array (n : Nat) (e : TypeId) | map (k v : TypeId) | pointer (e : TypeId) | iface | func | other
structure TI where
  k : TK
  size : Nat
  bytes : Nat
  zero : List AV

def tkOf : TypeDesc → TK
  | .int k => .int k
  | .bool => .bool
  | .string => .string
  | .struct fs => .struct (fs.toList.map fun f => (f.offset, f.type))
  | .slice e => .slice e
  | .array n e => .array n e
  | .map k v => .map k v
  | .pointer e => .pointer e
  | .interface _ => .iface
  | .func _ _ _ => .func
  | _ => .other
def tiOf (P : Program) (t : TypeId) : Option TI := do
  let d ← P.underlying t
  let i ← P.info? t
  let z ← i.zero
  some ⟨tkOf d, i.size, i.bytes, z.cells.toList.map zAV⟩

theorem tiOf_some {P : Program} {t : TypeId} {i : TI} (h : tiOf P t = some i) :
    ∃ d inf z, P.underlying t = some d ∧ P.info? t = some inf ∧ inf.zero = some z ∧ tkOf d = i.k ∧ inf.size = i.size ∧ inf.bytes = i.bytes ∧ z.cells.toList.map zAV = i.zero := by
  unfold tiOf at h
  cases h1 : P.underlying t with
  | none => simp [h1] at h
  | some d =>
    cases h2 : P.info? t with
    | none => simp [h1, h2] at h
    | some inf =>
      cases h3 : inf.zero with
      | none => simp [h1, h2, h3] at h
      | some z =>
        simp [h1, h2, h3] at h
        subst h
        exact ⟨d, inf, z, rfl, rfl, h3, rfl, rfl, rfl, rfl⟩

section
variable {P : Program} {w : World}
theorem run_info {t : TypeId} {inf : TypeInfo} (h : P.info? t = some inf) : (typeInfo t).run P w = .ok inf w := by
  simp [typeInfo, h]
theorem run_sizeOf' {t : TypeId} {i : TI} (h : tiOf P t = some i) : (sizeOf t).run P w = .ok i.size w := by
  obtain ⟨d, inf, z, h1, h2, h3, h4, h5, h6, h7⟩ := tiOf_some h
  simp [sizeOf, run_info h2, h5]
def TK.agg : TK → Bool | .struct _ | .array _ _ => true | _ => false
theorem run_isAgg' {t : TypeId} {i : TI} (h : tiOf P t = some i) : (isAgg t).run P w = .ok i.k.agg w := by
  obtain ⟨d, inf, z, h1, h2, h3, h4, h5, h6, h7⟩ := tiOf_some h
  rw [← h4]
  unfold isAgg
  rw [Sem.run_bind, run_underlying h1]
  cases d <;> rfl
theorem run_zeroValue' {t : TypeId} {i : TI} (h : tiOf P t = some i) : ∃ z, (zeroValue t).run P w = .ok z w ∧ z.cells.toList.map zAV = i.zero := by
  obtain ⟨d, inf, z, h1, h2, h3, h4, h5, h6, h7⟩ := tiOf_some h
  exact ⟨z, by simp [zeroValue, run_info h2, h3], h7⟩

/-! ### loads -/
theorem run_loadCellsFrom (a : Addr) (g : Nat → Value) : ∀ (n i : Nat) (acc : Array Value), (∀ j, i ≤ j → j < i + n → w.cell? (a.add j) = some (g j)) →
    (loadCellsFrom a i n acc).run P w = .ok (acc ++ ((List.range' i n).map g).toArray) w := by
  intro n
  induction n with
  | zero => intro i acc _; simp [loadCellsFrom]
  | succ n ih =>
    intro i acc h
    have h0 := h i (Nat.le_refl _) (by omega)
    simp only [loadCellsFrom, Sem.run_bind, run_load, h0, Result.andThen_ok]
    rw [ih (i + 1) (acc.push (g i)) (fun j h1 h2 => h j (by omega) (by omega))]
    simp [List.range'_succ]
theorem run_loadCells' (a : Addr) (g : Nat → Value) (n : Nat) (h : ∀ j, j < n → w.cell? (a.add j) = some (g j)) :
    (loadCells a n).run P w = .ok ((List.range n).map g).toArray w := by
  unfold loadCells
  rw [run_loadCellsFrom a g n 0 #[] (fun j _ hj => h j (by omega))]
  simp [List.range_eq_range']
theorem run_loadVar' {t : TypeId} {i : TI} (h : tiOf P t = some i) (a : Addr) (g : Nat → Value) (hn : i.k.agg = false → 0 < i.size)
    (hg : ∀ j, j < i.size → w.cell? (a.add j) = some (g j)) :
    (loadVar t a).run P w = .ok (if i.k.agg then .agg ((List.range i.size).map g).toArray else g 0) w := by
  unfold loadVar
  simp only [Sem.run_bind, run_isAgg' h, Result.andThen_ok]
  cases ha : i.k.agg with
  | true => simp [run_sizeOf' h, run_loadCells' a g i.size hg]
  | false =>
    have := hg 0 (hn ha)
    rw [show a.add 0 = a from rfl] at this
    simp [this]

/-! ### stores -/
def splice (arr : Array Value) (k : Nat) : List Value → Array Value
  | [] => arr
  | v :: vs => splice (arr.setIfInBounds k v) (k + 1) vs
def putRow (w : World) (b : Nat) (arr : Array Value) (t : TypeId) : World := { w with heap := w.heap.setIfInBounds b (.cells arr t (0, 0)) }
theorem putRow_same (w : World) (b : Nat) (arr : Array Value) (t : TypeId) (h : w.heap[b]? = some (.cells arr t (0, 0))) : putRow w b arr t = w := by
  obtain ⟨hb, he⟩ := Array.getElem?_eq_some_iff.1 h
  unfold putRow
  have : w.heap.setIfInBounds b (.cells arr t (0, 0)) = w.heap := by
    apply Array.ext
    · simp
    · intro i h1 h2
      rw [Array.getElem_setIfInBounds]
      split
      · rename_i e; subst e; exact he.symm
      · rfl
  rw [this]
theorem putRow_putRow (w : World) (b : Nat) (arr arr' : Array Value) (t : TypeId) : putRow (putRow w b arr t) b arr' t = putRow w b arr' t := by
  unfold putRow
  simp
theorem setCell_row (w : World) (b k : Nat) (arr : Array Value) (t : TypeId) (v : Value) (h : w.heap[b]? = some (.cells arr t (0, 0))) :
    w.setCell ⟨b, k, none⟩ v = putRow w b (arr.setIfInBounds k v) t := by
  obtain ⟨hb, he⟩ := Array.getElem?_eq_some_iff.1 h
  unfold World.setCell putRow
  congr 1
  apply Array.ext
  · simp
  · intro i h1 h2
    rw [Array.getElem_modify, Array.getElem_setIfInBounds]
    · by_cases e : b = i
      · subst e; simp [he]
      · simp [e]
    · simpa using h2
theorem heap_putRow (w : World) (b : Nat) (arr : Array Value) (t : TypeId) (hb : b < w.heap.size) : (putRow w b arr t).heap[b]? = some (.cells arr t (0, 0)) := by
  unfold putRow
  simp [hb]
theorem heap_putRow_ne (w : World) (b c : Nat) (arr : Array Value) (t : TypeId) (hb : c ≠ b) : (putRow w b arr t).heap[c]? = w.heap[c]? := by
  unfold putRow
  rw [Array.getElem?_setIfInBounds_ne (Ne.symm hb)]
theorem size_putRow (w : World) (b : Nat) (arr : Array Value) (t : TypeId) : (putRow w b arr t).heap.size = w.heap.size := by simp [putRow]
theorem size_splice (vs : List Value) : ∀ (arr : Array Value) (k : Nat), (splice arr k vs).size = arr.size := by
  induction vs with
  | nil => intro _ _; rfl
  | cons v vs ih => intro arr k; simp [splice, ih]
theorem run_storeCells (t : TypeId) (b off : Nat) : ∀ (vs : List Value) (i : Nat) (arr : Array Value) (w : World), w.heap[b]? = some (.cells arr t (0, 0)) →
    (∀ v ∈ vs, v.oneCell' = true) → off + i + vs.length ≤ arr.size →
    (storeCells ⟨b, off, none⟩ vs i).run P w = .ok () (putRow w b (splice arr (off + i) vs) t) := by
  intro vs
  induction vs with
  | nil => intro i arr w h _ _; simp [storeCells, splice, putRow_same w b arr t h]
  | cons v vs ih =>
    intro i arr w h hv hl
    have hadd : (⟨b, off, none⟩ : Addr).add i = ⟨b, off + i, none⟩ := Addr.add_lit b off i
    have hc : w.cell? ⟨b, off + i, none⟩ = some (arr[off + i]'(by simp at hl; omega)) := by
      rw [cell_of_row w b (off + i) arr t (0, 0) h]
      simp at hl
      simp [show off + i < arr.size by omega]
    have hf : w.frozen? ⟨b, off + i, none⟩ = false := frozen_of_row w b (off + i) arr t h
    simp only [storeCells, Sem.run_bind, hadd]
    rw [run_store P w _ v _ (hv v (by simp)), hc]
    simp only [hf, Bool.false_eq_true, if_false, Result.andThen_ok]
    rw [setCell_row w b (off + i) arr t v h]
    have hb := (Array.getElem?_eq_some_iff.1 h).1
    rw [ih (i + 1) (arr.setIfInBounds (off + i) v) _ (heap_putRow _ _ _ _ hb) (fun u hu => hv u (by simp [hu])) (by simp at hl ⊢; omega)]
    rw [putRow_putRow]
    rfl
end
end Go.Sh
