/- Shadow logic, part Z: an argument of a statement. -/
import Derived.Test.YtdhmbpipjdapfaaGreatShY
import Derived.SizedLaws
import Derived.Carry
namespace Go.Sh
open Go.RowKit
/-- What a plain type's value is. -/
def ShapeV (P : Program) (m : Nat) (t : TypeId) (u : AV) : Prop := match P.underlying t with
  | some (.struct _) => ∃ us, u = .agg us ∧ Shape P m t us
  | _ => Shape P m t [u]
section
variable {H : Type} {enc : TypeId × Value → H} {P : Program} {W : World}
theorem arg_open {m : Nat} {t : TypeId} (hp : plainT P m t = true) {base : Nat} {v : Value} {d : DataW H} {ps : List MemPlace} (hv : Value.okWide P W .any base t v) (h : DataW.Trod enc P W 0 (fun _ => true) true t v d ps)
    {ts : List TypeId} {ds : List (DataW H)} {j : Nat} (hw : (DataW.weightsEach P ts ds).all (· ≤ reachBytes) = true) (ht : ts[j]? = some t) (hd : ds[j]? = some d) :
    ∃ u, ShapeV P m t u ∧ RepV (M0 W) u v := by
  obtain ⟨fuel, hf⟩ := h
  have hwt : ∀ n ∈ d.weights P t, n ≤ reachBytes := fun n hn => by
    have := List.all_eq_true.1 hw _ (DataW.weights_mem_each ht hd n hn)
    simpa using this
  cases m with
  | zero => cases hp
  | succ m =>
  have hp' := hp
  unfold plainT at hp'
  cases hu : P.underlying t with
  | none => simp [hu] at hp'
  | some td =>
    have one : P.cellsOf t = 1 → v.cells = #[v] → (∀ us, Shape P (m + 1) t us → us.length = 1) → (∀ u, ShapeV P (m + 1) t u ↔ Shape P (m + 1) t [u]) → ∃ u, ShapeV P (m + 1) t u ∧ RepV (M0 W) u v := by
      intro h1 h2 h3 h4
      obtain ⟨us, k1, k2⟩ := open_shape (m + 1) fuel t hp v.cells.toList d ps (by rw [h2, h1]; rfl) hf hwt
      obtain ⟨u, rfl⟩ := List.length_eq_one_iff.1 (h3 us k1)
      refine ⟨u, (h4 u).2 k1, ?_⟩
      have := k2.2 0
      rw [h2] at this
      simpa using this
    cases td <;> simp only [hu, Bool.false_eq_true, beq_iff_eq, Bool.and_eq_true] at hp'
    case bool =>
      refine one hp' ?_ (fun us hs => ?_) (fun u => by simp [ShapeV, hu])
      · cases v <;> first | rfl | (simp [Value.okWide, Cell.okWide, Cell.ok, hu] at hv)
      · simp only [Shape, hu] at hs; obtain ⟨b, rfl⟩ := hs; rfl
    case int k =>
      refine one hp' ?_ (fun us hs => ?_) (fun u => by simp [ShapeV, hu])
      · cases v <;> first | rfl | (simp [Value.okWide, Cell.okWide, Cell.ok, hu] at hv)
      · simp only [Shape, hu] at hs; obtain ⟨b, rfl, _⟩ := hs; rfl
    case string =>
      refine one hp' ?_ (fun us hs => ?_) (fun u => by simp [ShapeV, hu])
      · cases v <;> first | rfl | (simp [Value.okWide, Cell.okWide, Cell.ok, hu] at hv)
      · simp only [Shape, hu] at hs; obtain ⟨b, rfl, _⟩ := hs; rfl
    case slice e =>
      refine one hp'.1 ?_ (fun us hs => ?_) (fun u => by simp [ShapeV, hu])
      · cases v <;> first | rfl | (simp [Value.okWide, Cell.okWide, Cell.ok, hu] at hv)
      · simp only [Shape, hu] at hs; obtain ⟨b, rfl, _⟩ := hs; rfl
    case struct fs =>
      simp only [Value.okWide, hu] at hv
      obtain ⟨cs, rfl, hcs, _⟩ := hv
      obtain ⟨us, k1, k2⟩ := open_shape (m + 1) fuel t hp cs.toList d ps (by simpa using hcs) hf hwt
      exact ⟨.agg us, by simp only [ShapeV, hu]; exact ⟨us, rfl, k1⟩, .agg _ _ (by simpa using k2.1) (by simpa using k2.2)⟩
/-- Behind the call an argument reads as it did. -/
theorem arg_shut {t : TypeId} (hl : laidOutB P = true) (hr : P.readableRec t = true) (hrow : t < P.types.size) {W' : World} {v : Value} {d : DataW H} {ps : List MemPlace}
    (h : DataW.Trod enc P W 0 (fun _ => true) true t v d ps) (hb : Below W.heap.size W W') : DataW.Trod enc P W' 0 (fun b => decide (b < W.heap.size)) true t v d ps :=
  Below.trod hl hr hrow h hb fun x hx => by obtain ⟨m, hm⟩ := h; exact DataW.trod_lt m _ _ _ hm x hx
end
theorem repL_nil (w : World) : RepL (M0 w) [] #[] := ⟨rfl, fun j => by simp; exact .undef _⟩
theorem repL_cons {w : World} {u : AV} {us : List AV} {v : Value} {vs : List Value} (h : RepV (M0 w) u v) (k : RepL (M0 w) us vs.toArray) : RepL (M0 w) (u :: us) (v :: vs).toArray := by
  refine ⟨by have := k.1; simp at this ⊢; exact this, fun j => ?_⟩
  cases j with
  | zero => simpa using h
  | succ j => have := k.2 j; simpa using this
/-- A slice of structs, typed. -/
theorem map_of_all {α : Type} {enc : α → List AV} : ∀ {xs : List (List AV)}, (∀ x ∈ xs, ∃ a, x = enc a) → ∃ l : List α, xs = l.map enc
  | [], _ => ⟨[], rfl⟩
  | x :: xs, h => by
    obtain ⟨a, ha⟩ := h x (by simp)
    obtain ⟨l, hl⟩ := map_of_all (xs := xs) fun y hy => h y (by simp [hy])
    exact ⟨a :: l, by simp [ha, hl]⟩
end Go.Sh
