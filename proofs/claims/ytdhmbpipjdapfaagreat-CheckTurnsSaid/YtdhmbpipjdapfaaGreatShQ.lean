/- Shadow logic, part Q: a region that draws its order, from the text's order. -/
import Derived.Test.YtdhmbpipjdapfaaGreatShP
import Derived.OrdersIn
namespace Go.Sh
open Go.RowKit

def aops (dsts : List (Option Nat)) : List Oper → List (List (TypeId × Operand)) → List AOp
  | [], _ => []
  | o :: r, avs => ⟨o, gslot dsts o.guard, avs.headD []⟩ :: aops dsts r avs.tail
def hasEdge (o : Oper) (j : Nat) : Bool := o.after.any fun e => Region.binds .any e && e.on == j
def drawOk (ops : List Oper) (avs : List (List (TypeId × Operand))) : Bool :=
  let xs := aops (ops.map (·.dst)) ops avs
  (xs.zipIdx.all fun (x, i) => gOk (ops.map (·.dst)) x.o.guard && (x.o.after.all fun e => !Region.binds .any e || decide (e.on < i)) &&
    ((xs.take i).zipIdx.all fun (y, j) => hasEdge x.o j || indep y (cutAv x (xs.take (j + 1)))))

def rem (listed : Array Bool) : List AOp → Nat → List AOp
  | [], _ => []
  | x :: xs, k => if listed.getD k true then rem listed xs (k + 1) else x :: rem listed xs (k + 1)
theorem rem_append (listed : Array Bool) : ∀ (xs ys : List AOp) (k : Nat), rem listed (xs ++ ys) k = rem listed xs k ++ rem listed ys (k + xs.length)
  | [], ys, k => by simp [rem]
  | x :: xs, ys, k => by
    simp only [List.cons_append, rem, rem_append listed xs ys (k + 1), List.length_cons, Nat.add_assoc, Nat.add_comm 1]
    split <;> rfl
theorem getD_set_other (listed : Array Bool) (i j : Nat) (d : Bool) (h : i ≠ j) : (listed.setIfInBounds i true).getD j d = listed.getD j d := by
  rw [Array.getD_eq_getD_getElem?, Array.getD_eq_getD_getElem?, Array.getElem?_setIfInBounds_ne h]
theorem rem_set (listed : Array Bool) (i : Nat) : ∀ (xs : List AOp) (k : Nat), (i < k ∨ k + xs.length ≤ i) → rem (listed.setIfInBounds i true) xs k = rem listed xs k
  | [], k, _ => rfl
  | x :: xs, k, h => by
    simp only [List.length_cons] at h
    simp only [rem]
    rw [getD_set_other _ _ _ _ (by omega), rem_set listed i xs (k + 1) (by omega)]
theorem rem_split {listed : Array Bool} {y : AOp} {l4 : List AOp} : ∀ (l : List AOp) (k : Nat) (l3 : List AOp), rem listed l k = l3 ++ y :: l4 → ∃ j, l[j]? = some y ∧ listed.getD (k + j) true = false ∧ ∀ z ∈ l3, z ∈ l.take j
  | [], k, l3, h => by simp [rem] at h
  | x :: xs, k, l3, h => by
    simp only [rem] at h
    split at h
    · obtain ⟨j, h1, h2, h3⟩ := rem_split xs (k + 1) l3 h
      exact ⟨j + 1, by simpa using h1, by rw [← h2]; congr 1; omega, fun z hz => by simp [h3 z hz]⟩
    · rename_i hl
      cases l3 with
      | nil =>
        simp only [List.nil_append, List.cons.injEq] at h
        exact ⟨0, by simp [h.1], by simpa using hl, fun z hz => by cases hz⟩
      | cons z l3 =>
        simp only [List.cons_append, List.cons.injEq] at h
        obtain ⟨j, h1, h2, h3⟩ := rem_split xs (k + 1) l3 h.2
        refine ⟨j + 1, by simpa using h1, by rw [← h2]; congr 1; omega, fun w hw => ?_⟩
        rcases List.mem_cons.1 hw with rfl | hw
        · simp [h.1]
        · simp [h3 w hw]
theorem mem_rem {listed : Array Bool} {y : AOp} : ∀ {xs : List AOp} {k : Nat}, y ∈ rem listed xs k → ∃ j, xs[j]? = some y ∧ listed.getD (k + j) true = false
  | [], _, h => by simp [rem] at h
  | x :: xs, k, h => by
    simp only [rem] at h
    split at h
    · obtain ⟨j, h1, h2⟩ := mem_rem h
      exact ⟨j + 1, by simpa using h1, by rw [show k + (j + 1) = k + 1 + j by omega]; exact h2⟩
    · rename_i hk
      rcases List.mem_cons.1 h with e | h
      · exact ⟨0, by simp [e], by simpa using hk⟩
      · obtain ⟨j, h1, h2⟩ := mem_rem h
        exact ⟨j + 1, by simpa using h1, by rw [show k + (j + 1) = k + 1 + j by omega]; exact h2⟩
theorem rem_nil {listed : Array Bool} : ∀ {xs : List AOp} {k : Nat}, (∀ j, j < xs.length → listed.getD (k + j) true = true) → rem listed xs k = []
  | [], _, _ => rfl
  | x :: xs, k, h => by
    have h0 := h 0 (by simp)
    rw [Nat.add_zero] at h0
    simp only [rem, h0, if_true]
    exact rem_nil fun j hj => by rw [show k + 1 + j = k + (j + 1) by omega]; exact h (j + 1) (by simp; omega)
theorem aops_get (dsts : List (Option Nat)) : ∀ (ops : List Oper) (avs : List (List (TypeId × Operand))) (i : Nat), (aops dsts ops avs)[i]? = (ops[i]?).map fun o => ⟨o, gslot dsts o.guard, avs.getD i []⟩
  | [], _, i => by simp [aops]
  | o :: r, avs, 0 => by cases avs <;> simp [aops]
  | o :: r, avs, i + 1 => by
    simp only [aops, List.getElem?_cons_succ, aops_get dsts r avs.tail i]
    cases avs <;> simp
theorem aops_length (dsts : List (Option Nat)) : ∀ (ops : List Oper) (avs : List (List (TypeId × Operand))), (aops dsts ops avs).length = ops.length
  | [], _ => rfl
  | o :: r, avs => by simp [aops, aops_length dsts r avs.tail]

section
variable {P : Program} {B n : Nat} {w0 : World}

theorem draw_sound {ops : List Oper} {avs : List (List (TypeId × Operand))} (hc : drawOk ops avs = true) {cr : List (Nat × AV)} {K : Env → St → Prop} {Q : Exit → Act → World → Prop} :
    ∀ (fuel : Nat) (listed : Array Bool) {M : Mem} {env : Env} {st : St} {a : Act} {w : World}, listed.size = ops.length → (∀ i, listed.getD i true = false → i < ops.length) → ((List.range ops.length).filter fun i => !listed.getD i true).length ≤ fuel →
    Inv B w0 M st w → RepE M n env a → (∀ a' w', Post B w0 M n K a' w' → Q .normal a' w') →
    vcT P n cr (rem listed (aops (ops.map (·.dst)) ops avs) 0) env st K → wpAnyIn (fen M.ro) 0 P .any ops.toArray Q fuel listed a w := by
  intro fuel
  induction fuel with
  | zero =>
    intro listed M env st a w hs _ hcnt hI hE hQ h
    have hall : ∀ j, j < ops.length → listed.getD j true = true := by
      intro j hj
      have hnil : (List.range ops.length).filter (fun i => !listed.getD i true) = [] := List.length_eq_zero_iff.1 (Nat.le_zero.1 hcnt)
      have := List.filter_eq_nil_iff.1 hnil j (List.mem_range.2 hj)
      simpa using this
    have hrem : rem listed (aops (ops.map (·.dst)) ops avs) 0 = [] := rem_nil fun j hj => by rw [aops_length] at hj; rw [Nat.zero_add]; exact hall j hj
    rw [hrem] at h
    refine ⟨?_, hQ _ _ ⟨M, env, st, .refl M, hI, hE, h⟩⟩
    unfold Region.ready
    refine List.filter_eq_nil_iff.2 fun i hi => ?_
    have := List.mem_range.1 hi
    simp only [List.size_toArray] at this
    simp [hall i this]
  | succ fuel ih =>
    intro listed M env st a w hs hlt hcnt hI hE hQ h
    have hlen := aops_length (ops.map (·.dst)) ops avs
    refine ⟨fun hr => ?_, fun i hi => ?_⟩
    · -- nothing is ready: nothing is left
      have hall : ∀ j, j < ops.length → listed.getD j true = true := by
        intro j
        induction j using Nat.strongRecOn with
        | _ j ihj =>
          intro hj
          cases hl : listed.getD j true with
          | true => rfl
          | false =>
            exfalso
            have hmem : j ∈ Region.ready .any ops.toArray listed := by
              unfold Region.ready
              refine List.mem_filter.2 ⟨List.mem_range.2 (by simpa using hj), ?_⟩
              have hgo : ops[j]? = some ops[j] := List.getElem?_eq_getElem hj
              simp only [hl, Bool.not_false, Bool.true_and, List.getElem?_toArray, hgo, Option.map_some, Option.getD_some, Array.all_eq_true']
              intro e he
              have hck := hc
              unfold drawOk at hck
              have hx : (aops (ops.map (·.dst)) ops avs)[j]? = some ⟨ops[j], gslot (ops.map (·.dst)) ops[j].guard, avs.getD j []⟩ := by rw [aops_get, hgo]; rfl
              have := List.all_eq_true.1 hck (⟨ops[j], gslot (ops.map (·.dst)) ops[j].guard, avs.getD j []⟩, j) (by rw [List.mem_iff_getElem?]; exact ⟨j, by simp [List.getElem?_zipIdx, hx]⟩)
              simp only [Bool.and_eq_true] at this
              have hed := Array.all_eq_true'.1 this.1.2 e he
              simp only [Bool.or_eq_true, Bool.not_eq_true', decide_eq_true_eq] at hed ⊢
              rcases hed with hb | hb
              · exact .inl hb
              · right
                have h1 := ihj e.on hb (by omega)
                have hlt' : e.on < listed.size := by rw [hs]; omega
                rw [Array.getD_eq_getD_getElem?, Array.getElem?_eq_getElem hlt', Option.getD_some] at h1 ⊢
                exact h1
            rw [hr] at hmem
            cases hmem
      have hrem : rem listed (aops (ops.map (·.dst)) ops avs) 0 = [] := rem_nil fun j hj => by rw [hlen] at hj; rw [Nat.zero_add]; exact hall j hj
      rw [hrem] at h
      exact hQ _ _ ⟨M, env, st, .refl M, hI, hE, h⟩
    · -- number i comes up
      obtain ⟨hi1, hi2⟩ := List.mem_filter.1 hi
      have hilt : i < ops.length := by simpa using List.mem_range.1 hi1
      have hgo : ops[i]? = some ops[i] := List.getElem?_eq_getElem hilt
      simp only [Bool.and_eq_true, Bool.not_eq_true', List.getElem?_toArray, hgo, Option.map_some, Option.getD_some] at hi2
      obtain ⟨hnl, hready⟩ := hi2
      generalize hX : aops (ops.map (·.dst)) ops avs = xs at *
      let xi : AOp := ⟨ops[i], gslot (ops.map (·.dst)) ops[i].guard, avs.getD i []⟩
      have hxi : xs[i]? = some xi := by rw [← hX, aops_get, hgo]; rfl
      have hix : i < xs.length := by omega
      have hxe : xs[i] = xi := by rw [List.getElem?_eq_getElem hix] at hxi; injection hxi
      have hsplit : xs = xs.take i ++ xi :: xs.drop (i + 1) := by
        rw [← hxe, List.getElem_cons_drop, List.take_append_drop]
      have hlt1 : (xs.take i).length = i := by simp; omega
      have hrem1 : rem listed xs 0 = rem listed (xs.take i) 0 ++ xi :: rem listed (xs.drop (i + 1)) (i + 1) := by
        conv => lhs; rw [hsplit]
        rw [rem_append, hlt1, Nat.zero_add]
        simp only [rem, hnl, Bool.false_eq_true, if_false]
      have hrem2 : rem (listed.setIfInBounds i true) xs 0 = rem listed (xs.take i) 0 ++ rem listed (xs.drop (i + 1)) (i + 1) := by
        conv => lhs; rw [hsplit]
        rw [rem_append, hlt1, Nat.zero_add]
        have hset : (listed.setIfInBounds i true).getD i true = true := by
          rw [Array.getD_eq_getD_getElem?]
          have : i < listed.size := by omega
          simp [this]
        simp only [rem, hset, if_true]
        rw [rem_set _ _ _ _ (by omega), rem_set _ _ _ _ (by omega)]
      have hck := hc
      unfold drawOk at hck
      rw [hX] at hck
      have hcki := List.all_eq_true.1 hck (xi, i) (by rw [List.mem_iff_getElem?]; exact ⟨i, by simp [List.getElem?_zipIdx, hxi]⟩)
      simp only [Bool.and_eq_true] at hcki
      obtain ⟨⟨hgok, _⟩, hpairs⟩ := hcki
      rw [hrem1] at h
      have hb := bubble (rem listed (xs.take i) 0) [] hI.fresh (fun l3 y l4 hrm => by
        obtain ⟨j, hj1, hj2, hj3⟩ := rem_split _ _ _ hrm
        rw [Nat.zero_add] at hj2
        have hpj := List.all_eq_true.1 hpairs (y, j) (by rw [List.mem_iff_getElem?]; exact ⟨j, by simp [List.getElem?_zipIdx, hj1]⟩)
        simp only [Bool.or_eq_true] at hpj
        rcases hpj with he | he
        · exfalso
          unfold hasEdge at he
          obtain ⟨k, hk, he⟩ := Array.any_eq_true.1 he
          simp only [Bool.and_eq_true, beq_iff_eq] at he
          have hal := Array.all_eq_true'.1 hready _ (Array.getElem_mem hk)
          have hal' : (!Region.binds .any (ops[i].after[k]) || listed.getD (ops[i].after[k]).on false) = true := hal
          have e1 : Region.binds .any (ops[i].after[k]) = true := he.1
          have e2 : (ops[i].after[k]).on = j := he.2
          rw [e1, e2] at hal'
          simp only [Bool.not_true, Bool.false_or] at hal'
          have hjl : j < listed.size := by
            have := (List.getElem?_eq_some_iff.1 hj1).1
            simp at this; omega
          rw [Array.getD_eq_getD_getElem?, Array.getElem?_eq_getElem hjl, Option.getD_some] at hj2 hal'
          rw [hj2] at hal'; cases hal'
        · have hji : j < i := by
            have := (List.getElem?_eq_some_iff.1 hj1).1
            rw [hlt1] at this; exact this
          have htk : ∀ m, m ≤ i → (xs.take i).take m = xs.take m := fun m hm => by rw [List.take_take, Nat.min_eq_left hm]
          refine indep_cut (fun z hz => ?_) (by simp) he
          simp only [List.nil_append, List.mem_append, List.mem_singleton] at hz
          have hjx : xs[j]? = some y := by rw [List.getElem?_take_of_lt hji] at hj1; exact hj1
          rcases hz with hz | rfl
          · have := hj3 z hz
            rw [htk j (by omega)] at this
            exact List.take_subset_take_left xs (by omega) this
          · rw [List.mem_iff_getElem?]
            exact ⟨j, by rw [List.getElem?_take_of_lt (by omega)]; exact hjx⟩) h
      rw [← hrem2] at hb
      obtain ⟨hd, g, hgv, _, hres⟩ := opT_iff.1 hb
      have hw := wanted_of_guard hE hgv (gslot_ok (ops := ops) hgok)
      have hcnt' : ((List.range ops.length).filter fun j => !(listed.setIfInBounds i true).getD j true).length ≤ fuel := by
        have : ((List.range ops.length).filter fun j => !(listed.setIfInBounds i true).getD j true).length < ((List.range ops.length).filter fun j => !listed.getD j true).length := by
          have hsub : ((List.range ops.length).filter fun j => !(listed.setIfInBounds i true).getD j true) = ((List.range ops.length).filter fun j => !listed.getD j true).filter fun j => j != i := by
            rw [List.filter_filter]
            refine List.filter_congr fun j hj => ?_
            by_cases hji : j = i
            · subst hji
              have : j < listed.size := by omega
              rw [Array.getD_eq_getD_getElem?]
              simp [this]
            · rw [getD_set_other _ _ _ _ (Ne.symm hji)]
              simp [hji]
          rw [hsub]
          have := List.length_filter_lt_length_iff_exists (l := (List.range ops.length).filter fun j => !listed.getD j true) (p := fun j => j != i)
          refine this.2 ⟨i, List.mem_filter.2 ⟨List.mem_range.2 hilt, by rw [hnl]; rfl⟩, by simp⟩
        omega
      have hrec : ∀ a' w', Post B w0 M n (fun env st => vcT P n cr (rem (listed.setIfInBounds i true) xs 0) env st K) a' w' → wpAnyIn (fen M.ro) 0 P .any ops.toArray Q fuel (listed.setIfInBounds i true) a' w' := by
        intro a' w' ⟨M', env', st', k1, k2, k3, k4⟩
        rw [← k1.ro]
        refine ih (listed.setIfInBounds i true) (by simpa using hs) (fun j hj => ?_) hcnt' k2 k3 (fun a'' w'' ⟨M'', e'', s'', j1, j2, j3, j4⟩ => hQ _ _ ⟨M'', e'', s'', k1.trans j1, j2, j3, j4⟩) k4
        by_cases hji : j = i
        · subst hji; exact hilt
        · rw [getD_set_other _ _ _ _ (Ne.symm hji)] at hj; exact hlt j hj
      unfold wpOpIn
      simp only [List.getElem?_toArray, hgo]
      cases g with
      | true =>
        rw [hw, if_pos rfl]
        simp only [effR, if_true] at hres
        exact (wp_of_out hE hd hrec (evalOp_sound hI hE _ (resK_of_P hres)) hI (no_defer (resK_of_P hres)))
      | false =>
        rw [hw, if_neg (by simp)]
        have hdn : ∀ k, ops[i].dst = some k → k < n := by
          intro k hk
          have hd' : dstOk n ops[i].dst = true := hd
          rw [hk] at hd'
          simpa [dstOk] using hd'
        exact ⟨fun _ _ => trivial, hrec _ _ ⟨M, _, st, .refl M, hI, hE.put _ hdn (.tup [] #[] rfl fun _ => .undef _), hres⟩⟩
end
end Go.Sh
