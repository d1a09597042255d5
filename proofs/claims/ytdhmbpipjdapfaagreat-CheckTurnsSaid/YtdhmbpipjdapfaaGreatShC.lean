/- Shadow logic, part C: what an operation does, in abstract values. -/
import Derived.Test.YtdhmbpipjdapfaaGreatShB
import Derived.Laws.Append
import Derived.Laws.StructEq
namespace Go.Sh
open Go.RowKit

/-- Cells of a value, if it is known. -/
def AV.cells? : AV → Option (List AV)
  | .undef => none
  | .agg cs => some cs
  | .tup _ => none
  | v => some [v]
def AV.one : AV → Bool
  | .undef | .agg _ | .tup _ => false
  | _ => true

def RepL (M : Mem) (cs : List AV) (vs : Array Value) : Prop := vs.size = cs.length ∧ ∀ j, RepV M (cs.getD j .undef) (vs.getD j Go.undef)
theorem RepV.cells {M : Mem} {v : AV} {x : Value} (h : RepV M v x) {cs : List AV} (hc : v.cells? = some cs) : RepL M cs x.cells := by
  have single : ∀ {v : AV} {x : Value}, RepV M v x → x.cells = #[x] → RepL M [v] x.cells := by
    intro v x h e
    rw [e]
    refine ⟨rfl, fun j => ?_⟩
    cases j with
    | zero => simpa using h
    | succ j => simpa using RepV.undef _
  cases h <;> simp only [AV.cells?, Option.some.injEq, reduceCtorEq] at hc
  case agg cs' vs hs hr => subst hc; exact ⟨hs, hr⟩
  all_goals (subst hc; first | exact single (by constructor <;> assumption) rfl | skip)
theorem RepV.one {M : Mem} {v : AV} {x : Value} (h : RepV M v x) (hc : v.one = true) : x.oneCell' = true := by
  cases h <;> first | rfl | (simp [AV.one] at hc)

def spliceL (l : List AV) (k : Nat) : List AV → List AV
  | [] => l
  | v :: vs => spliceL (l.set k v) (k + 1) vs
theorem length_spliceL (vs : List AV) : ∀ (l : List AV) (k : Nat), (spliceL l k vs).length = l.length := by
  induction vs with
  | nil => intro _ _; rfl
  | cons v vs ih => intro l k; simp [spliceL, ih]
theorem RepL.set {M : Mem} {cs : List AV} {vs : Array Value} (h : RepL M cs vs) (k : Nat) (hk : k < cs.length) {v : AV} {x : Value} (hx : RepV M v x) :
    RepL M (cs.set k v) (vs.setIfInBounds k x) := by
  refine ⟨by simp [h.1], fun j => ?_⟩
  rw [List.getD_eq_getElem?_getD, Array.getD_eq_getD_getElem?, List.getElem?_set, Array.getElem?_setIfInBounds]
  have hk' : k < vs.size := by rw [h.1]; exact hk
  by_cases e : k = j
  · subst e; simp [hk, hk', hx]
  · have := h.2 j
    rw [List.getD_eq_getElem?_getD, Array.getD_eq_getD_getElem?] at this
    simpa [e] using this
theorem RepL.splice {M : Mem} : ∀ (vs : List AV) (xs : List Value) {cs : List AV} {arr : Array Value}, RepL M cs arr → ∀ k, k + vs.length ≤ cs.length → RepL M vs xs.toArray →
    RepL M (spliceL cs k vs) (Sh.splice arr k xs) := by
  intro vs
  induction vs with
  | nil =>
    intro xs cs arr h k _ hx
    have : xs = [] := by simpa using hx.1
    subst this; exact h
  | cons v vs ih =>
    intro xs cs arr h k hk hx
    cases xs with
    | nil => simp [RepL] at hx
    | cons x xs =>
      simp only [List.length_cons] at hk
      refine ih xs (h.set k (by omega) (by simpa using hx.2 0)) (k + 1) (by simp; omega) ⟨by simpa using hx.1, fun j => ?_⟩
      have := hx.2 (j + 1)
      simpa using this
theorem RepL.mono {M M' : Mem} (h : M.le M') {cs : List AV} {vs : Array Value} (k : RepL M cs vs) : RepL M' cs vs := ⟨k.1, fun j => (k.2 j).mono h⟩
theorem RepL.extract {M : Mem} {cs : List AV} {vs : Array Value} (h : RepL M cs vs) (i n : Nat) : RepL M ((cs.drop i).take n) (vs.extract i (i + n)) := by
  refine ⟨?_, fun j => ?_⟩
  · have := h.1
    simp; omega
  · have := h.2 (i + j)
    rw [List.getD_eq_getElem?_getD, Array.getD_eq_getD_getElem?] at this ⊢
    rw [List.getElem?_take, List.getElem?_drop, Array.getElem?_extract]
    have hs := h.1
    by_cases hj : j < n
    · rw [if_pos hj]
      by_cases h2 : i + j < vs.size
      · rw [if_pos (by omega)]; exact this
      · have h3 : cs[i + j]? = none := by rw [List.getElem?_eq_none]; omega
        rw [h3]; exact .undef _
    · rw [if_neg hj]; exact .undef _
theorem RepL.ofZero (M : Mem) (z : Array Value) : RepL M (z.toList.map zAV) z := by
  refine ⟨by simp, fun j => ?_⟩
  rw [List.getD_eq_getElem?_getD, Array.getD_eq_getD_getElem?]
  by_cases h : j < z.size
  · simp [h, zAV_rep]
  · simp [h]; exact .undef _

def fillAV (place : Nat → Option (Nat × Nat)) (cells : List AV) : List (Nat × AV) → Option (List AV)
  | [] => some cells
  | (i, v) :: rest =>
    match place i, v.cells? with
    | some (off, size), some cs => if cs.length = size ∧ off + cs.length ≤ cells.length then fillAV place (spliceL cells off cs) rest else none
    | _, _ => none
theorem foldl_zipIdx_splice (off : Nat) : ∀ (xs : List Value) (k : Nat) (cs : Array Value),
    (xs.zipIdx k).foldl (fun (cs : Array Value) (p : Value × Nat) => cs.setIfInBounds (off + p.2) p.1) cs = Sh.splice cs (off + k) xs := by
  intro xs
  induction xs with
  | nil => intro k cs; rfl
  | cons x xs ih => intro k cs; simp only [List.zipIdx_cons, List.foldl_cons, Sh.splice]; rw [ih]; rfl
theorem fill_rep {M : Mem} (place : Nat → Option (Nat × Nat)) : ∀ (ps : List (Nat × AV)) (qs : List (Nat × Value)) (cs : List AV) (arr : Array Value) (out : List AV),
    RepL M cs arr → ps.map (·.1) = qs.map (·.1) → (∀ (j : Nat) (p : Nat × AV) (q : Nat × Value), ps[j]? = some p → qs[j]? = some q → RepV M p.2 q.2) → fillAV place cs ps = some out →
    ∃ arr', Instr.fill place arr qs = some arr' ∧ RepL M out arr' := by
  intro ps
  induction ps with
  | nil =>
    intro qs cs arr out h he _ hf
    have : qs = [] := by simpa using he.symm
    subst this
    simp only [fillAV, Option.some.injEq] at hf
    subst hf
    exact ⟨arr, rfl, h⟩
  | cons p ps ih =>
    intro qs cs arr out h he hr hf
    cases qs with
    | nil => simp at he
    | cons q qs =>
      obtain ⟨i, v⟩ := p
      obtain ⟨i', x⟩ := q
      simp only [List.map_cons, List.cons.injEq] at he
      obtain ⟨e1, e2⟩ := he
      subst e1
      unfold fillAV at hf
      cases hp : place i with
      | none => simp [hp] at hf
      | some os =>
        obtain ⟨off, size⟩ := os
        cases hc : v.cells? with
        | none => simp [hp, hc] at hf
        | some vc =>
          simp only [hp, hc] at hf
          split at hf
          · rename_i hcond
            obtain ⟨h1, h2⟩ := hcond
            have hx : RepV M v x := hr 0 _ _ rfl rfl
            have hxc := hx.cells hc
            have hsz : x.cells.size = vc.length := hxc.1
            obtain ⟨arr', ha, hb⟩ := ih qs (spliceL cs off vc) (Sh.splice arr off x.cells.toList) out
              (RepL.splice vc x.cells.toList h off h2 (by simpa using hxc)) e2
              (fun j p q hp hq => hr (j + 1) p q (by simpa using hp) (by simpa using hq)) hf
            refine ⟨arr', ?_, hb⟩
            unfold Instr.fill
            simp only [hp]
            rw [if_neg (by simp [hsz, h1]; have := h.1; omega)]
            rw [← Array.foldl_toList, Array.toList_zipIdx]
            have := foldl_zipIdx_splice off x.cells.toList 0 arr
            rw [Nat.add_zero] at this
            rw [this]
            exact ha
          · cases hf
end Go.Sh
