import Derived.Test.YtdhmbpipjdapfaaGreatShBd
import Derived.OrdersIn
import Derived.Deep.LoopGhost
import Derived.Sort.LoopGhostIn
set_option linter.unusedSimpArgs false
set_option linter.unusedVariables false

/- Shadow logic, part N: two operations in the other order. -/
namespace Go.Sh
open Go.RowKit
section
variable {P : Program}

def rngApart (a n b m : Nat) : Prop := a + n ≤ b ∨ b + m ≤ a
def swappable : ORes → ORes → Prop
  | .app .., .app .. => False
  | .new .., .app .. => False
  | .store i a cs, .store j b ds => i ≠ j ∨ rngApart a cs.length b ds.length
  | .store i a cs, .load j b n _ => i ≠ j ∨ rngApart a cs.length b n
  | .load i a n _, .store j b ds => i ≠ j ∨ rngApart a n b ds.length
  | _, _ => True

theorem get_spliceL (vs : List AV) : ∀ (l : List AV) (k q : Nat), (spliceL l k vs)[q]? = if k ≤ q ∧ q < k + vs.length ∧ q < l.length then vs[q - k]? else l[q]? := by
  induction vs with
  | nil => intro ar k q; simp [spliceL]; omega
  | cons u vs ih =>
    intro ar k q
    simp only [spliceL, ih, List.length_set, List.length_cons]
    by_cases c1 : k + 1 ≤ q ∧ q < k + 1 + vs.length ∧ q < ar.length
    · rw [if_pos c1, if_pos (by omega)]
      rw [show q - k = (q - (k + 1)) + 1 by omega, List.getElem?_cons_succ]
    · rw [if_neg c1, List.getElem?_set]
      by_cases c2 : k = q
      · subst c2
        by_cases c3 : k < ar.length
        · rw [if_pos rfl, if_pos c3, if_pos (by omega)]; simp
        · rw [if_pos rfl, if_neg c3, if_neg (by omega)]; rw [List.getElem?_eq_none (by omega)]
      · rw [if_neg c2, if_neg (by omega)]
theorem spliceL_comm {l cs ds : List AV} {a b : Nat} (h : rngApart a cs.length b ds.length) : spliceL (spliceL l a cs) b ds = spliceL (spliceL l b ds) a cs := by
  apply List.ext_getElem?
  intro q
  simp only [get_spliceL, length_spliceL]
  unfold rngApart at h
  by_cases c1 : b ≤ q ∧ q < b + ds.length ∧ q < l.length <;> by_cases c2 : a ≤ q ∧ q < a + cs.length ∧ q < l.length
  · omega
  · rw [if_pos c1, if_neg c2, if_pos c1]
  · rw [if_neg c1, if_pos c2, if_pos c2]
  · rw [if_neg c1, if_neg c2, if_neg c2, if_neg c1]
theorem get_apart {l cs : List AV} {a b n : Nat} (h : rngApart a cs.length b n) (ag : Bool) (hn : ag = false → 0 < n) :
    (if ag then AV.agg (((spliceL l a cs).drop b).take n) else (spliceL l a cs).getD b .undef) = (if ag then AV.agg ((l.drop b).take n) else l.getD b .undef) := by
  unfold rngApart at h
  cases ag with
  | true =>
    simp only [if_true]
    congr 1
    apply List.ext_getElem?
    intro q
    simp only [List.getElem?_take, List.getElem?_drop, get_spliceL]
    split
    · rw [if_neg (by omega)]
    · rfl
  | false =>
    have := hn rfl
    simp only [Bool.false_eq_true, if_false, List.getD_eq_getElem?_getD, get_spliceL]
    rw [if_neg (by omega)]

theorem upd_same (st : St) (i : Nat) (x y : AObj) : (st.upd i x).upd i y = st.upd i y := by
  funext k
  simp only [St.upd]
  split <;> rfl
theorem Owns.fresh {st0 st : St} {e sz n : Nat} {o : Own} (h : Owns st0 e sz n o st) (hf : Fresh st) : Fresh st0 := by
  cases o with
  | no => exact h.elim
  | clip => simp only [Owns] at h; subst h; exact hf
  | op id =>
    obtain ⟨h1, h2⟩ := h
    subst h2
    obtain ⟨N, hN⟩ := hf
    refine ⟨N, fun i hi => ?_⟩
    have := hN i hi
    simp only [St.upd] at this
    split at this
    · cases this
    · exact this
/-- What isn't the owned row's may be laid beside it. -/
theorem Owns.upd {st0 st : St} {e sz n : Nat} {o : Own} (h : Owns st0 e sz n o st) {i : Nat} (hi : ∀ id, o = .op id → i ≠ id) (x : AObj) : Owns (st0.upd i x) e sz n o (st.upd i x) := by
  cases o with
  | no => exact h.elim
  | clip => simp only [Owns] at h ⊢; rw [h]
  | op id =>
    obtain ⟨h1, h2⟩ := h
    have hne := hi id rfl
    exact ⟨by rw [upd_ne _ (Ne.symm hne)]; exact h1, by rw [h2, upd_upd _ (Ne.symm hne)]⟩
theorem Owns.get {st0 st : St} {e sz n : Nat} {o : Own} (h : Owns st0 e sz n o st) {i : Nat} {t : TypeId} {cs : List AV} (hi : st i = some (.cells t cs)) : st0 i = some (.cells t cs) ∧ ∀ id, o = .op id → i ≠ id := by
  cases o with
  | no => exact h.elim
  | clip => simp only [Owns] at h; rw [← h]; exact ⟨hi, fun _ e => by cases e⟩
  | op id =>
    obtain ⟨h1, h2⟩ := h
    subst h2
    by_cases e1 : i = id
    · subst e1; rw [upd_eq] at hi; cases hi
    · rw [upd_ne _ e1] at hi; exact ⟨hi, fun id' e => by injection e with e; rw [← e]; exact e1⟩
theorem Owns.none {st0 st : St} {e sz n : Nat} {o : Own} (h : Owns st0 e sz n o st) {i : Nat} (hi : st i = none) : st0 i = .none ∧ ∀ id, o = .op id → i ≠ id := by
  cases o with
  | no => exact h.elim
  | clip => simp only [Owns] at h; rw [← h]; exact ⟨hi, fun _ e => by cases e⟩
  | op id =>
    obtain ⟨h1, h2⟩ := h
    subst h2
    by_cases e1 : i = id
    · subst e1; rw [upd_eq] at hi; cases hi
    · rw [upd_ne _ e1] at hi; exact ⟨hi, fun id' e => by injection e with e; rw [← e]; exact e1⟩
theorem Owns.get' {st0 st : St} {e sz n : Nat} {o : Own} (h : Owns st0 e sz n o st) {i : Nat} {x : AObj} (hi : st0 i = some x) : st i = some x ∧ ∀ id, o = .op id → i ≠ id := owns_sub h i x hi

theorem load_iff {rv : AV} {id off n : Nat} {ag : Bool} {st : St} {K : AV → St → Prop} : resKP P rv (.load id off n ag) st K ↔ ∃ t cs, st id = some (.cells t cs) ∧ off + n ≤ cs.length ∧ K (if ag then .agg ((cs.drop off).take n) else cs.getD off .undef) st := by
  refine ⟨fun h => resK_load (P := P) h, fun ⟨t, cs, h1, h2, h3⟩ => ?_⟩
  show resK P (.load id off n ag) st K
  unfold resK; simp only [h1]; exact ⟨h2, h3⟩
theorem store_iff {rv : AV} {id off : Nat} {vs : List AV} {st : St} {K : AV → St → Prop} : resKP P rv (.store id off vs) st K ↔ ∃ t cs, st id = some (.cells t cs) ∧ off + vs.length ≤ cs.length ∧ K .undef (st.upd id (.cells t (spliceL cs off vs))) := by
  refine ⟨fun h => resK_store (P := P) h, fun ⟨t, cs, h1, h2, h3⟩ => ?_⟩
  show resK P (.store id off vs) st K
  unfold resK; simp only [h1]; exact ⟨h2, h3⟩

def oldR : ORes → Bool
  | .val _ | .load _ _ _ _ | .store _ _ _ | .new _ _ | .lit _ _ | .app _ _ _ _ _ _ | .call _ _ | .yield _ _ | .stuck => true
  | _ => false
theorem resKP_swap0 {u v : AV} {r1 r2 : ORes} {st : St} {K : AV → AV → St → Prop} (hs : swappable r1 r2) (hld : ∀ i a n, r1 = .load i a n false ∨ r2 = .load i a n false → 0 < n) (hf : Fresh st) (ho : oldR r1 = true ∧ oldR r2 = true)
    (h : resKP P u r1 st fun v1 s1 => resKP P v r2 s1 fun v2 s2 => K v1 v2 s2) : resKP P v r2 st fun v2 s1 => resKP P u r1 s1 fun v1 s2 => K v1 v2 s2 := by
  cases r2 with
  | val x => exact h
  | lit sz xs => exact h
  | call f args =>
    refine ⟨?_, resKP_mono (fun _ _ h => h.2) h⟩
    -- the call's contract
    cases r1 with
    | val x => exact h.1
    | lit => exact h.1
    | call => exact h.2.1
    | stuck => exact h.elim
    | yield => exact h.elim
    | load => obtain ⟨t, cs, _, _, h3⟩ := (load_iff (P := P) (rv := u)).1 h; exact h3.1
    | store => obtain ⟨t, cs, _, _, h3⟩ := (store_iff (P := P) (rv := u)).1 h; exact h3.1
    | new t cs => obtain ⟨N, hN⟩ := hf; exact (h N (hN N (Nat.le_refl _))).1
    | app e sz b xs ys o =>
      obtain ⟨st0, h1, h2⟩ := h
      obtain ⟨N, hN⟩ := h1.fresh hf
      exact (h2 (.op N) _ ⟨hN N (Nat.le_refl _), rfl⟩).1
    | _ => exact absurd ho.1 Bool.false_ne_true
  | stuck =>
    cases r1 with
    | val x => exact h
    | lit => exact h
    | call => exact h.2
    | stuck => exact h
    | yield => exact h.elim
    | load => obtain ⟨t, cs, _, _, h3⟩ := (load_iff (P := P) (rv := u)).1 h; exact h3
    | store => obtain ⟨t, cs, _, _, h3⟩ := (store_iff (P := P) (rv := u)).1 h; exact h3
    | new t cs => obtain ⟨N, hN⟩ := hf; exact h N (hN N (Nat.le_refl _))
    | app e sz b xs ys o =>
      obtain ⟨st0, h1, h2⟩ := h
      obtain ⟨N, hN⟩ := h1.fresh hf
      exact h2 (.op N) _ ⟨hN N (Nat.le_refl _), rfl⟩
    | _ => exact absurd ho.1 Bool.false_ne_true
  | yield =>
    cases r1 with
    | val x => exact h.elim
    | lit => exact h
    | call => exact h.2
    | stuck => exact h.elim
    | yield => exact h.elim
    | load => obtain ⟨t, cs, _, _, h3⟩ := (load_iff (P := P) (rv := u)).1 h; exact h3.elim
    | store => obtain ⟨t, cs, _, _, h3⟩ := (store_iff (P := P) (rv := u)).1 h; exact h3.elim
    | new t cs => obtain ⟨N, hN⟩ := hf; exact h N (hN N (Nat.le_refl _))
    | app e sz b xs ys o =>
      obtain ⟨st0, h1, h2⟩ := h
      obtain ⟨N, hN⟩ := h1.fresh hf
      exact h2 (.op N) _ ⟨hN N (Nat.le_refl _), rfl⟩
    | _ => exact absurd ho.1 Bool.false_ne_true
  | load j b m ag =>
    rw [load_iff]
    cases r1 with
    | val x => exact (load_iff (P := P) (rv := v)).1 h
    | lit => exact (load_iff (P := P) (rv := v)).1 h
    | call => obtain ⟨t, cs, h1, h2, h3⟩ := (load_iff (P := P) (rv := v)).1 h.2; exact ⟨t, cs, h1, h2, h.1, h3⟩
    | stuck => exact h.elim
    | yield => exact h.elim
    | load i a n ag' =>
      obtain ⟨t, cs, h1, h2, h3⟩ := (load_iff (P := P) (rv := u)).1 h
      obtain ⟨t', cs', h1', h2', h3'⟩ := (load_iff (P := P) (rv := v)).1 h3
      exact ⟨t', cs', h1', h2', load_iff.2 ⟨t, cs, h1, h2, h3'⟩⟩
    | store i a cs0 =>
      obtain ⟨t, cs, h1, h2, h3⟩ := (store_iff (P := P) (rv := u)).1 h
      obtain ⟨t', cs', h1', h2', h3'⟩ := (load_iff (P := P) (rv := v)).1 h3
      by_cases hij : j = i
      · subst hij
        rw [upd_eq] at h1'
        injection h1' with h1'
        injection h1' with e1 e2
        subst e1 e2
        rw [length_spliceL] at h2'
        have hap : rngApart a cs0.length b m := hs.resolve_left (fun e => e rfl)
        rw [get_apart hap ag (fun e => by subst e; exact hld j b m (.inr rfl))] at h3'
        exact ⟨t, cs, h1, h2', store_iff.2 ⟨t, cs, h1, h2, h3'⟩⟩
      · rw [upd_ne _ hij] at h1'
        exact ⟨t', cs', h1', h2', store_iff.2 ⟨t, cs, h1, h2, h3'⟩⟩
    | new t0 cs0 =>
      obtain ⟨N, hN⟩ := hf
      obtain ⟨t', cs', h1', h2', h3'⟩ := (load_iff (P := P) (rv := v)).1 (h N (hN N (Nat.le_refl _)))
      by_cases hjN : j = N
      · -- the very number: another one tells
        obtain ⟨t2, cs2, g1, g2, g3⟩ := (load_iff (P := P) (rv := v)).1 (h (N + 1) (hN _ (by omega)))
        rw [upd_ne _ (by omega), hjN, hN N (Nat.le_refl _)] at g1
        cases g1
      · rw [upd_ne _ hjN] at h1'
        refine ⟨t', cs', h1', h2', fun id hid => ?_⟩
        obtain ⟨t2, cs2, g1, g2, g3⟩ := (load_iff (P := P) (rv := v)).1 (h id hid)
        have hne : j ≠ id := fun e => by rw [e, hid] at h1'; cases h1'
        rw [upd_ne _ hne, h1'] at g1
        injection g1 with g1
        injection g1 with e1 e2
        subst e1 e2
        exact g3
    | app e sz bb xs ys o =>
      obtain ⟨st0, h1, h2⟩ := h
      obtain ⟨N, hN⟩ := h1.fresh hf
      have key : ∀ o' st', Owns st0 e sz (xs.length + ys.length) o' st' → ∃ t cs, st0 j = some (.cells t cs) ∧ b + m ≤ cs.length ∧ K (.list sz (xs ++ ys) o') (if ag then .agg ((cs.drop b).take m) else cs.getD b .undef) st' := by
        intro o' st' ho
        obtain ⟨t', cs', h1', h2', h3'⟩ := (load_iff (P := P) (rv := v)).1 (h2 o' st' ho)
        exact ⟨t', cs', (ho.get h1').1, h2', h3'⟩
      obtain ⟨t, cs, k1, k2, k3⟩ := key (.op N) _ ⟨hN N (Nat.le_refl _), rfl⟩
      refine ⟨t, cs, (h1.get' k1).1, k2, st0, h1, fun o' st' ho => ?_⟩
      obtain ⟨t', cs', h1', h2', h3'⟩ := key o' st' ho
      rw [k1] at h1'
      injection h1' with h1'
      injection h1' with e1 e2
      subst e1 e2
      exact h3'
    | _ => exact absurd ho.1 Bool.false_ne_true
  | store j b ds =>
    rw [store_iff]
    cases r1 with
    | val x => exact (store_iff (P := P) (rv := v)).1 h
    | lit => exact (store_iff (P := P) (rv := v)).1 h
    | call => obtain ⟨t, cs, h1, h2, h3⟩ := (store_iff (P := P) (rv := v)).1 h.2; exact ⟨t, cs, h1, h2, h.1, h3⟩
    | stuck => exact h.elim
    | yield => exact h.elim
    | load i a n ag =>
      obtain ⟨t, cs, h1, h2, h3⟩ := (load_iff (P := P) (rv := u)).1 h
      obtain ⟨t', cs', h1', h2', h3'⟩ := (store_iff (P := P) (rv := v)).1 h3
      refine ⟨t', cs', h1', h2', ?_⟩
      by_cases hij : i = j
      · subst hij
        rw [h1] at h1'
        injection h1' with h1'
        injection h1' with e1 e2
        subst e1 e2
        have hap : rngApart a n b ds.length := hs.resolve_left (fun e => e rfl)
        have hap' : rngApart b ds.length a n := by unfold rngApart at *; omega
        refine load_iff.2 ⟨t, _, upd_eq _ _ _, by rw [length_spliceL]; exact h2, ?_⟩
        rw [get_apart hap' ag (fun e => by subst e; exact hld i a n (.inl rfl))]
        exact h3'
      · exact load_iff.2 ⟨t, cs, by rw [upd_ne _ hij]; exact h1, h2, h3'⟩
    | store i a cs0 =>
      obtain ⟨t, cs, h1, h2, h3⟩ := (store_iff (P := P) (rv := u)).1 h
      obtain ⟨t', cs', h1', h2', h3'⟩ := (store_iff (P := P) (rv := v)).1 h3
      by_cases hij : j = i
      · subst hij
        rw [upd_eq] at h1'
        injection h1' with h1'
        injection h1' with e1 e2
        subst e1 e2
        rw [length_spliceL] at h2'
        have hap : rngApart a cs0.length b ds.length := hs.resolve_left (fun e => e rfl)
        refine ⟨t, cs, h1, h2', store_iff.2 ⟨t, _, upd_eq _ _ _, by rw [length_spliceL]; exact h2, ?_⟩⟩
        rw [upd_same] at h3' ⊢
        rw [← spliceL_comm hap]; exact h3'
      · rw [upd_ne _ hij] at h1'
        refine ⟨t', cs', h1', h2', store_iff.2 ⟨t, cs, by rw [upd_ne _ (Ne.symm hij)]; exact h1, h2, ?_⟩⟩
        rw [upd_upd _ hij]; exact h3'
    | new t0 cs0 =>
      obtain ⟨N, hN⟩ := hf
      obtain ⟨t', cs', h1', h2', h3'⟩ := (store_iff (P := P) (rv := v)).1 (h N (hN N (Nat.le_refl _)))
      by_cases hjN : j = N
      · obtain ⟨t2, cs2, g1, g2, g3⟩ := (store_iff (P := P) (rv := v)).1 (h (N + 1) (hN _ (by omega)))
        rw [upd_ne _ (by omega), hjN, hN N (Nat.le_refl _)] at g1
        cases g1
      · rw [upd_ne _ hjN] at h1'
        refine ⟨t', cs', h1', h2', fun id hid => ?_⟩
        have hne : j ≠ id := fun e => by
          subst e
          rw [upd_eq] at hid; cases hid
        rw [upd_ne _ (Ne.symm hne)] at hid
        obtain ⟨t2, cs2, g1, g2, g3⟩ := (store_iff (P := P) (rv := v)).1 (h id hid)
        rw [upd_ne _ hne, h1'] at g1
        injection g1 with g1
        injection g1 with e1 e2
        subst e1 e2
        rw [upd_upd _ hne]; exact g3
    | app e sz bb xs ys o =>
      obtain ⟨st0, h1, h2⟩ := h
      obtain ⟨N, hN⟩ := h1.fresh hf
      have key : ∀ o' st', Owns st0 e sz (xs.length + ys.length) o' st' → ∃ t cs, st0 j = some (.cells t cs) ∧ b + ds.length ≤ cs.length ∧ (∀ id, o' = .op id → j ≠ id) ∧ K (.list sz (xs ++ ys) o') .undef (st'.upd j (.cells t (spliceL cs b ds))) := by
        intro o' st' ho
        obtain ⟨t', cs', h1', h2', h3'⟩ := (store_iff (P := P) (rv := v)).1 (h2 o' st' ho)
        exact ⟨t', cs', (ho.get h1').1, h2', (ho.get h1').2, h3'⟩
      obtain ⟨t, cs, k1, k2, k3, k4⟩ := key (.op N) _ ⟨hN N (Nat.le_refl _), rfl⟩
      refine ⟨t, cs, (h1.get' k1).1, k2, st0.upd j (.cells t (spliceL cs b ds)), h1.upd (h1.get' k1).2 _, fun o' st' ho => ?_⟩
      -- back to a state without the store
      have hback : ∃ st'', Owns st0 e sz (xs.length + ys.length) o' st'' ∧ st' = st''.upd j (.cells t (spliceL cs b ds)) := by
        cases o' with
        | no => exact ho.elim
        | clip => exact ⟨st0, rfl, ho⟩
        | op id =>
          obtain ⟨o1, o2⟩ := ho
          have hne : j ≠ id := fun e => by subst e; rw [upd_eq] at o1; cases o1
          rw [upd_ne _ (Ne.symm hne)] at o1
          exact ⟨_, ⟨o1, rfl⟩, by rw [o2, upd_upd _ hne]⟩
      obtain ⟨st'', ho'', rfl⟩ := hback
      obtain ⟨t', cs', h1', h2', h3', h4'⟩ := key o' st'' ho''
      rw [k1] at h1'
      injection h1' with h1'
      injection h1' with e1 e2
      subst e1 e2
      exact h4'
    | _ => exact absurd ho.1 Bool.false_ne_true
  | new t2 cs2 =>
    cases r1 with
    | val x => exact h
    | lit => exact h
    | call => exact fun id hid => ⟨h.1, h.2 id hid⟩
    | stuck => exact h.elim
    | yield => exact h.elim
    | load i a n ag =>
      obtain ⟨t, cs, h1, h2, h3⟩ := (load_iff (P := P) (rv := u)).1 h
      intro id hid
      have hne : i ≠ id := fun e => by rw [e, hid] at h1; cases h1
      exact load_iff.2 ⟨t, cs, by rw [upd_ne _ hne]; exact h1, h2, h3 id hid⟩
    | store i a cs0 =>
      obtain ⟨t, cs, h1, h2, h3⟩ := (store_iff (P := P) (rv := u)).1 h
      intro id hid
      have hne : i ≠ id := fun e => by rw [e, hid] at h1; cases h1
      refine store_iff.2 ⟨t, cs, by rw [upd_ne _ hne]; exact h1, h2, ?_⟩
      rw [← upd_upd _ hne]
      exact h3 id (by rw [upd_ne _ (Ne.symm hne)]; exact hid)
    | new t1 cs1 =>
      intro id2 h2 id1 h1
      have hne : id1 ≠ id2 := fun e => by rw [e, upd_eq] at h1; cases h1
      rw [upd_ne _ hne] at h1
      rw [← upd_upd _ hne]
      exact h id1 h1 id2 (by rw [upd_ne _ (Ne.symm hne)]; exact h2)
    | app e sz bb xs ys o =>
      obtain ⟨st0, h1, h2⟩ := h
      intro id hid
      have hn := h1.none hid
      refine ⟨st0.upd id (.cells t2 cs2), h1.upd hn.2 _, fun o' st' ho => ?_⟩
      have hback : ∃ st'', Owns st0 e sz (xs.length + ys.length) o' st'' ∧ st'' id = none ∧ st' = st''.upd id (.cells t2 cs2) := by
        cases o' with
        | no => exact ho.elim
        | clip => exact ⟨st0, rfl, hn.1, ho⟩
        | op id' =>
          obtain ⟨o1, o2⟩ := ho
          have hne : id ≠ id' := fun e => by subst e; rw [upd_eq] at o1; cases o1
          rw [upd_ne _ (Ne.symm hne)] at o1
          exact ⟨_, ⟨o1, rfl⟩, by rw [upd_ne _ hne]; exact hn.1, by rw [o2, upd_upd _ hne]⟩
      obtain ⟨st'', ho'', hid'', rfl⟩ := hback
      exact h2 o' st'' ho'' id hid''
    | _ => exact absurd ho.1 Bool.false_ne_true
  | app e sz bb xs ys o =>
    cases r1 with
    | val x => exact h
    | lit => exact h
    | call => obtain ⟨hp, st0, h1, h2⟩ := h; exact ⟨st0, h1, fun o' st' ho => ⟨hp, h2 o' st' ho⟩⟩
    | yield => exact h.elim
    | stuck => exact h.elim
    | app => exact hs.elim
    | load i a n ag =>
      obtain ⟨t, cs, h1, h2, st0, h3, h4⟩ := (load_iff (P := P) (rv := u)).1 h
      refine ⟨st0, h3, fun o' st' ho => load_iff.2 ⟨t, cs, (ho.get' (h3.get h1).1).1, h2, h4 o' st' ho⟩⟩
    | store i a cs0 =>
      obtain ⟨t, cs, h1, h2, st0, h3, h4⟩ := (store_iff (P := P) (rv := u)).1 h
      have hg := h3.get (upd_eq _ _ _)
      -- the state beside the row, without the store
      have hst : ∃ st1, Owns st1 e sz xs.length o st ∧ st0 = st1.upd i (.cells t (spliceL cs a cs0)) := by
        cases o with
        | no => exact h3.elim
        | clip => exact ⟨st, rfl, (by simp only [Owns] at h3; exact h3.symm)⟩
        | op id =>
          obtain ⟨o1, o2⟩ := h3
          have hne : i ≠ id := hg.2 id rfl
          refine ⟨fun k => if k = i then st i else st0 k, ⟨by simp [Ne.symm hne, o1], ?_⟩, ?_⟩
          · funext k
            have := congrFun o2 k
            simp only [St.upd] at this ⊢
            by_cases c1 : k = i
            · subst c1; simp [hne]
            · simp only [c1, if_false] at this ⊢; exact this
          · funext k
            simp only [St.upd]
            by_cases c1 : k = i
            · subst c1; simp [hg.1]
            · simp [c1]
      obtain ⟨st1, hs1, rfl⟩ := hst
      refine ⟨st1, hs1, fun o' st' ho => ?_⟩
      have h1' := (ho.get' (hs1.get h1).1)
      exact store_iff.2 ⟨t, cs, h1'.1, h2, h4 o' _ (ho.upd h1'.2 _)⟩
    | new t1 cs1 => exact hs.elim
    | _ => exact absurd ho.1 Bool.false_ne_true
  | _ => exact absurd ho.2 Bool.false_ne_true

theorem resKP_const {rv : AV} {r : ORes} {st : St} {A : Prop} (hf : Fresh st) (h : resKP P rv r st fun _ _ => A) : A := by
  cases r with
  | val x => exact h
  | lit => exact h
  | call => exact h.2
  | stuck => exact h.elim
  | load => obtain ⟨t, cs, _, _, h3⟩ := (load_iff (P := P) (rv := rv)).1 h; exact h3
  | store => obtain ⟨t, cs, _, _, h3⟩ := (store_iff (P := P) (rv := rv)).1 h; exact h3
  | new t cs => obtain ⟨N, hN⟩ := hf; exact h N (hN N (Nat.le_refl _))
  | app e sz b xs ys o =>
    obtain ⟨st0, h1, h2⟩ := h
    obtain ⟨N, hN⟩ := h1.fresh hf
    exact h2 (.op N) _ ⟨hN N (Nat.le_refl _), rfl⟩
  | mget => obtain ⟨_, _, h2⟩ := (obs_iff (P := P) (rv := rv) rfl).1 h; exact h2
  | mlen => obtain ⟨_, _, h2⟩ := (obs_iff (P := P) (rv := rv) rfl).1 h; exact h2
  | _ => exact h.elim

/-- Maps stand as they stood. -/
def SameMaps (st s : St) : Prop := ∀ id es c, s id = some (.map es c) ↔ st id = some (.map es c)
theorem sameMaps_upd {st : St} {i : Nat} {t : TypeId} {cs : List AV} (h : ∀ es c, st i ≠ some (.map es c)) : SameMaps st (st.upd i (.cells t cs)) := by
  intro id es c
  by_cases e : id = i
  · subst e; rw [upd_eq]; simp [h]
  · rw [upd_ne _ e]
theorem owns_maps {st0 st : St} {e sz n : Nat} {o : Own} (h : Owns st0 e sz n o st) : SameMaps st0 st := by
  cases o with
  | no => exact h.elim
  | clip => simp only [Owns] at h; rw [h]; exact fun _ _ _ => Iff.rfl
  | op id =>
    obtain ⟨h1, h2⟩ := h
    intro i es c
    rw [h2]
    by_cases e : i = id
    · subst e; rw [upd_eq, h1]; simp
    · rw [upd_ne _ e]
theorem resKP_maps {u : AV} {r : ORes} {st : St} {K : AV → St → Prop} (h : resKP P u r st K) : resKP P u r st fun v s => K v s ∧ SameMaps st s := by
  have rf : SameMaps st st := fun _ _ _ => Iff.rfl
  cases r with
  | val x => exact ⟨h, rf⟩
  | lit => exact ⟨h, rf⟩
  | call => exact ⟨h.1, h.2, rf⟩
  | stuck => exact h.elim
  | load => obtain ⟨t, cs, h1, h2, h3⟩ := (load_iff (P := P) (rv := u)).1 h; exact load_iff.2 ⟨t, cs, h1, h2, h3, rf⟩
  | store i a cs0 => obtain ⟨t, cs, h1, h2, h3⟩ := (store_iff (P := P) (rv := u)).1 h; exact store_iff.2 ⟨t, cs, h1, h2, h3, sameMaps_upd (by rw [h1]; simp)⟩
  | new t cs => exact fun id hid => ⟨h id hid, sameMaps_upd (by rw [hid]; simp)⟩
  | app e sz b xs ys o =>
    obtain ⟨st0, h1, h2⟩ := h
    exact ⟨st0, h1, fun o' st' ho => ⟨h2 o' st' ho, fun i es c => (owns_maps ho i es c).trans (owns_maps h1 i es c).symm⟩⟩
  | mget => obtain ⟨v, h1, h2⟩ := (obs_iff (P := P) (rv := u) rfl).1 h; exact (obs_iff rfl).2 ⟨v, h1, h2, rf⟩
  | mlen => obtain ⟨v, h1, h2⟩ := (obs_iff (P := P) (rv := u) rfl).1 h; exact (obs_iff rfl).2 ⟨v, h1, h2, rf⟩
  | _ => exact h.elim
theorem mapAt_same {st s : St} (h : SameMaps st s) (id : Nat) : mapAt (s id) = mapAt (st id) := by
  by_cases e : ∃ es c, st id = some (.map es c)
  · obtain ⟨es, c, e⟩ := e; rw [(h id es c).2 e, e]
  · have e1 : ∀ (o : Option AObj), (∀ es c, o ≠ some (.map es c)) → mapAt o = none := by
      intro o ho
      unfold mapAt
      split
      · exact absurd rfl (ho _ _)
      · rfl
    rw [e1 (st id) (fun es c e' => e ⟨es, c, e'⟩), e1 (s id) (fun es c e' => e ⟨es, c, (h id es c).1 e'⟩)]
theorem obsV_same {r : ORes} {st s : St} (h : SameMaps st s) : obsV r s = obsV r st := by
  cases r <;> simp only [obsV, mapAt_same h]
def deadR : ORes → Bool
  | .appr _ _ _ _ _ _ _ _ | .mnew | .mset _ _ _ _ | .mdel _ _ _ | .mrange _ | .mnext _ | .mentry _ | .clr _ _ _ => true
  | _ => false
theorem dead_false {u : AV} {r : ORes} {st : St} {K : AV → St → Prop} (hd : deadR r = true) (h : resKP P u r st K) : False := by
  cases r <;> first | exact h | (cases hd; done)
theorem kinds (r : ORes) : oldR r = true ∨ isObs r = true ∨ deadR r = true := by
  cases r <;> first | exact .inl rfl | exact .inr (.inl rfl) | exact .inr (.inr rfl)
theorem resKP_swap {u v : AV} {r1 r2 : ORes} {st : St} {K : AV → AV → St → Prop} (hs : swappable r1 r2) (hld : ∀ i a n, r1 = .load i a n false ∨ r2 = .load i a n false → 0 < n) (hf : Fresh st)
    (h : resKP P u r1 st fun v1 s1 => resKP P v r2 s1 fun v2 s2 => K v1 v2 s2) : resKP P v r2 st fun v2 s1 => resKP P u r1 s1 fun v1 s2 => K v1 v2 s2 := by
  rcases kinds r1 with o1 | o1 | o1
  · rcases kinds r2 with o2 | o2 | o2
    · exact resKP_swap0 hs hld hf ⟨o1, o2⟩ h
    · have h' := resKP_mono (K' := fun v1 s1 => ∃ x, obsV r2 st = some x ∧ K v1 x s1) (fun v1 s1 hh => by
        obtain ⟨hh, hm⟩ := hh
        obtain ⟨x, k1, k2⟩ := (obs_iff o2).1 hh
        exact ⟨x, by rw [← obsV_same hm]; exact k1, k2⟩) (resKP_maps h)
      refine (obs_iff o2).2 ?_
      cases hx : obsV r2 st with
      | none => exact (resKP_const hf (resKP_mono (K' := fun _ _ => False) (fun v1 s1 ⟨x, k1, _⟩ => by rw [hx] at k1; cases k1) h')).elim
      | some x => exact ⟨x, rfl, resKP_mono (fun v1 s1 ⟨y, k1, k2⟩ => by rw [hx] at k1; injection k1 with k1; subst k1; exact k2) h'⟩
    · exact (resKP_const hf (resKP_mono (K' := fun _ _ => False) (fun v1 s1 hh => dead_false o2 hh) h)).elim
  · obtain ⟨x, k1, k2⟩ := (obs_iff o1).1 h
    exact resKP_mono (fun v2 s2 ⟨hk, hm⟩ => (obs_iff o1).2 ⟨x, by rw [obsV_same hm]; exact k1, hk⟩) (resKP_maps k2)
  · exact (dead_false o1 h).elim
end
end Go.Sh

/- Shadow logic, part O: a region that draws its order. -/
namespace Go.Sh
open Go.RowKit
section
variable {P : Program}

theorem resKP_and {rv : AV} {r : ORes} {st : St} {A : Prop} {K : AV → St → Prop} (hf : Fresh st) (h : resKP P rv r st fun v s => A ∧ K v s) : A ∧ resKP P rv r st K :=
  ⟨resKP_const hf (resKP_mono (fun _ _ h => h.1) h), resKP_mono (fun _ _ h => h.2) h⟩

theorem put_ne (env : Env) (d : Option Nat) (v : AV) (s : Nat) (h : d ≠ some s) : (env.put d v) s = env s := by
  cases d with
  | none => rfl
  | some d => simp only [Env.put]; rw [if_neg (fun e => h (by rw [e]))]
theorem put_comm (env : Env) (d d' : Option Nat) (v v' : AV) (h : ∀ i, d = some i → d' ≠ some i) : (env.put d v).put d' v' = (env.put d' v').put d v := by
  cases d with
  | none => rfl
  | some d =>
    cases d' with
    | none => rfl
    | some d' =>
      have : d ≠ d' := fun e => h d rfl (by rw [e])
      funext k
      simp only [Env.put]
      by_cases c1 : k = d <;> by_cases c2 : k = d' <;> simp [c1, c2]
      · exact absurd (c1.symm.trans c2) this
      · intro e; exact absurd e this
      · intro e; exact absurd e.symm this
theorem op_put (env : Env) (d : Option Nat) (v : AV) (x : Operand) (h : ∀ t, x = .tmp t → d ≠ some t) : (env.put d v).op x = env.op x := by
  cases x with
  | tmp t => exact put_ne env d v t (h t rfl)
  | const c => rfl
  | global g => rfl
  | func f => rfl

theorem looks_opd {x : AOp} {t : Nat} (h : Operand.tmp t ∈ x.o.op.operands) : t ∈ looks x := by
  unfold looks
  simp only [List.mem_append, List.mem_filterMap]
  exact .inl (.inr ⟨.tmp t, by simpa using h, rfl⟩)
theorem looks_guard {x : AOp} {s : Nat} {w : Bool} (h : x.g = some (s, w)) : s ∈ looks x := by
  unfold looks
  simp [h]
theorem looks_av {x : AOp} {ty : TypeId} {t : Nat} (h : (ty, Operand.tmp t) ∈ x.av) : t ∈ looks x := by
  unfold looks
  simp only [List.mem_append, List.mem_filterMap]
  exact .inr ⟨_, h, rfl⟩
theorem guardV_put {env : Env} {d : Option Nat} {v : AV} {x : AOp} (h : ∀ t, d = some t → t ∉ looks x) : guardV (env.put d v) x.g = guardV env x.g := by
  cases hg : x.g with
  | none => rfl
  | some p =>
    obtain ⟨s, w⟩ := p
    simp only [guardV]
    rw [put_ne _ _ _ _ (fun e => h s e (looks_guard hg))]
theorem evalOp_put {env : Env} {d : Option Nat} {v : AV} {x : AOp} (h : ∀ t, d = some t → t ∉ looks x) : evalOp P (env.put d v).op x.o.op = evalOp P env.op x.o.op :=
  evalOp_congr _ fun y hy => op_put _ _ _ _ fun t e => by subst e; exact fun e => h t e (looks_opd hy)
theorem addrOf_mem {op : Op} {q : TypeId × Operand} (h : addrOf op = some q) : q.2 ∈ op.operands := by
  cases op <;> simp [addrOf] at h <;> subst h <;> simp [Op.operands]
theorem apart_put {env : Env} {d : Option Nat} {v : AV} {x : AOp} (h : ∀ t, d = some t → t ∉ looks x) :
    (∀ p ∈ x.av, ∀ q, addrOf x.o.op = some q → apartAt P (env.put d v).op p q) ↔ ∀ p ∈ x.av, ∀ q, addrOf x.o.op = some q → apartAt P env.op p q := by
  have key : ∀ p ∈ x.av, ∀ q, addrOf x.o.op = some q → (apartAt P (env.put d v).op p q ↔ apartAt P env.op p q) := by
    intro p hp q hq
    have e1 : (env.put d v).op p.2 = env.op p.2 := op_put _ _ _ _ fun t e he => h t he (looks_av (ty := p.1) (by rw [← e]; exact hp))
    have e2 : (env.put d v).op q.2 = env.op q.2 := op_put _ _ _ _ fun t e he => h t he (looks_opd (by rw [← e]; exact addrOf_mem hq))
    unfold apartAt
    rw [e1, e2]
  exact ⟨fun hh p hp q hq => (key p hp q hq).1 (hh p hp q hq), fun hh p hp q hq => (key p hp q hq).2 (hh p hp q hq)⟩

/-! ### what outcomes a class has -/
theorem eval_load_shape {ρ : Operand → AV} {t : TypeId} {x : Operand} : evalOp P ρ (.load t x) = .stuck ∨ (∃ v, evalOp P ρ (.load t x) = .val v) ∨ ∃ i a ag, ρ x = .box i a ∧ evalOp P ρ (.load t x) = .load i a (szOf P t) ag ∧ (ag = false → szOf P t = 1) := by
  simp only [evalOp, szOf]
  cases ht : tiOf P t with
  | none => exact .inl rfl
  | some ti =>
    simp only
    cases hx : ρ x <;> try exact .inl rfl
    case eptr cs =>
      cases hag : ti.k.agg
      · simp only [Bool.false_eq_true, if_false]
        split
        · cases cs with
          | nil => exact .inl rfl
          | cons c cs => exact .inr (.inl ⟨_, rfl⟩)
        · exact .inl rfl
      · simp only [if_true]
        split
        · exact .inr (.inl ⟨_, rfl⟩)
        · exact .inl rfl
    case box i a =>
      simp only
      by_cases hc : ti.k.agg = false → ti.size = 1
      · rw [if_pos hc]; exact .inr (.inr ⟨i, a, _, rfl, rfl, hc⟩)
      · rw [if_neg hc]; exact .inl rfl
theorem eval_store_shape {ρ : Operand → AV} {t : TypeId} {x v : Operand} : evalOp P ρ (.store t x v) = .stuck ∨ ∃ i a cs, ρ x = .box i a ∧ evalOp P ρ (.store t x v) = .store i a cs ∧ cs.length = szOf P t := by
  simp only [evalOp, szOf]
  cases ht : tiOf P t with
  | none => exact .inl rfl
  | some ti =>
    simp only
    cases hx : ρ x <;> (try exact .inl rfl)
    cases hc : (ρ v).cells? with
    | none => exact .inl rfl
    | some cs =>
      by_cases h : cs.length = ti.size ∧ cs.all AV.one = true
      · exact .inr ⟨_, _, _, rfl, if_pos h, h.1⟩
      · exact .inl (if_neg h)
theorem eval_new_shape {ρ : Operand → AV} {op : Op} (h : clsOf op = .new) : evalOp P ρ op = .stuck ∨ ∃ t cs, evalOp P ρ op = .new t cs := by
  cases op <;> simp [clsOf] at h
  case alloc t =>
    simp only [evalOp]
    cases tiOf P t with
    | none => exact .inl rfl
    | some i => exact .inr ⟨_, _, rfl⟩
  case box t x =>
    simp only [evalOp]
    cases (ρ x).cells? with
    | none => exact .inl rfl
    | some i => exact .inr ⟨_, _, rfl⟩
  case call c =>
    exfalso
    revert h
    split <;> first | (rename_i e; cases e; done) | simp

def isPureR : ORes → Prop
  | .val _ | .lit _ _ | .call _ _ | .yield _ _ | .stuck | .mnew | .mget _ _ _ _ _ | .mset _ _ _ _ | .mdel _ _ _ | .mlen _ | .mrange _ | .mnext _ | .mentry _ | .clr _ _ _ => True
  | _ => False
theorem avBin_pure (op : BinOp) (t : TypeId) (x y : AV) : isPureR (avBin P op t x y) := by
  unfold avBin
  repeat' (first | trivial | split)
set_option maxHeartbeats 1000000 in
theorem eval_pure_shape {ρ : Operand → AV} {op : Op} (h : clsOf op = .pure) : isPureR (evalOp P ρ op) := by
  cases op <;> try (first | (simp [clsOf] at h; done) | trivial)
  case binOp => exact avBin_pure _ _ _ _
  case call c =>
    obtain ⟨callee, args, tys⟩ := c
    cases callee with
    | invoke => trivial
    | value f => simp only [evalOp]; repeat' (first | trivial | split)
    | builtin b =>
      cases b <;> try (first | trivial | (simp [clsOf] at h; done))
      all_goals (simp only [evalOp]; repeat' (first | trivial | split))
  all_goals (simp only [evalOp]; repeat' (first | trivial | split))
theorem eval_app_shape {ρ : Operand → AV} {op : Op} (h : clsOf op = .app) : evalOp P ρ op = .stuck ∨ (∃ e sz b xs ys o, evalOp P ρ op = .app e sz b xs ys o) ∨ ∃ e sz b id off n c ys, evalOp P ρ op = .appr e sz b id off n c ys := by
  cases op <;> try (simp [clsOf] at h; done)
  case call c =>
    obtain ⟨callee, args, tys⟩ := c
    cases callee with
    | invoke => simp [clsOf] at h
    | value f => simp [clsOf] at h
    | builtin b =>
      cases b <;> try (simp [clsOf] at h; done)
      simp only [evalOp]
      repeat' (first | exact .inl rfl | exact .inr (.inl ⟨_, _, _, _, _, _, rfl⟩) | exact .inr (.inr ⟨_, _, _, _, _, _, _, _, rfl⟩) | split)

def effR (P : Program) (env : Env) (g : Bool) (op : Op) : ORes := if g then evalOp P env.op op else .val (.tup [])
theorem opT_iff {n : Nat} {cr : List (Nat × AV)} {x : AOp} {K : Env → St → Prop} {env : Env} {st : St} : opT P n cr x K env st ↔
    dstOk n x.o.dst = true ∧ ∃ g, guardV env x.g = some g ∧ (g = true → ∀ p ∈ x.av, ∀ q, addrOf x.o.op = some q → apartAt P env.op p q) ∧
      resKP P (crGet cr x.o.dst) (effR P env g x.o.op) st (fun v st' => K (env.put x.o.dst v) st') := by
  unfold opT
  refine and_congr_right fun _ => ?_
  cases hg : guardV env x.g with
  | none => simp
  | some b =>
    cases b
    · simp only [Option.some.injEq, exists_eq_left']
      simp [effR, resKP, resK]
    · simp only [Option.some.injEq, exists_eq_left']
      simp [effR]
theorem effR_put {env : Env} {d : Option Nat} {v : AV} {x : AOp} (h : ∀ t, d = some t → t ∉ looks x) (g : Bool) : effR P (env.put d v) g x.o.op = effR P env g x.o.op := by
  unfold effR
  rw [evalOp_put h]

theorem indep_spec {x y : AOp} (h : indep x y = true) : (∀ t, x.o.dst = some t → t ∉ looks y) ∧ (∀ t, y.o.dst = some t → t ∉ looks x) ∧ (∀ t, x.o.dst = some t → y.o.dst ≠ some t) := by
  unfold indep at h
  simp only [Bool.and_eq_true] at h
  obtain ⟨⟨h1, h2⟩, _⟩ := h
  refine ⟨fun t ht => ?_, fun t ht => ?_, fun t ht => ?_⟩
  · simp only [ht, Bool.and_eq_true, Bool.not_eq_true', List.contains_eq_mem, decide_eq_false_iff_not] at h1
    exact h1.1
  · simp only [ht, Bool.not_eq_true', List.contains_eq_mem, decide_eq_false_iff_not] at h2
    exact h2
  · simp only [ht, Bool.and_eq_true, bne_iff_ne, ne_eq] at h1
    exact h1.2
theorem avHas_mem {av : List (TypeId × Operand)} {p : TypeId × Operand} (h : avHas av p = true) : p ∈ av := by
  unfold avHas at h
  obtain ⟨q, hq, he⟩ := List.any_eq_true.1 h
  simp only [Bool.and_eq_true, beq_iff_eq] at he
  obtain ⟨e1, e2⟩ := he
  obtain ⟨q1, q2⟩ := q
  obtain ⟨p1, p2⟩ := p
  dsimp only at e1 e2
  subst e1
  cases q2 <;> cases p2 <;> simp [opdEq] at e2
  subst e2
  exact hq
def rcls : ORes → Cls
  | .load .. => .load
  | .store .. => .store
  | .new .. => .new
  | .app .. => .app
  | .appr .. => .app
  | _ => .pure
theorem rcls_of {ρ : Operand → AV} (op : Op) : rcls (evalOp P ρ op) = .pure ∨ rcls (evalOp P ρ op) = clsOf op := by
  cases hc : clsOf op with
  | pure =>
    left
    have := eval_pure_shape (P := P) (ρ := ρ) hc
    generalize evalOp P ρ op = r at this
    cases r <;> first | rfl | exact this.elim
  | app => rcases eval_app_shape (P := P) (ρ := ρ) hc with e | ⟨e, sz, b, xs, ys, o, e1⟩ | ⟨e, sz, b, id, off, n, c, ys, e1⟩ <;> simp [*, rcls]
  | new => rcases eval_new_shape (P := P) (ρ := ρ) hc with e | ⟨t, cs, e⟩ <;> simp [e, rcls]
  | load =>
    cases op <;> try (simp [clsOf] at hc; done)
    · rename_i t x
      rcases eval_load_shape (P := P) (ρ := ρ) (t := t) (x := x) with e | ⟨v, e⟩ | ⟨i, a, ag, _, e, _⟩ <;> simp [e, rcls]
    · exfalso; revert hc; unfold clsOf; split <;> first | (rename_i e; cases e; done) | simp
  | store =>
    cases op <;> try (simp [clsOf] at hc; done)
    · rename_i t x v
      rcases eval_store_shape (P := P) (ρ := ρ) (t := t) (x := x) (v := v) with e | ⟨i, a, cs, _, e, _⟩ <;> simp [e, rcls]
    · exfalso; revert hc; unfold clsOf; split <;> first | (rename_i e; cases e; done) | simp
theorem cls_load {op : Op} (h : clsOf op = .load) : ∃ t x, op = .load t x := by
  cases op <;> try (simp [clsOf] at h; done)
  · exact ⟨_, _, rfl⟩
  · exfalso; revert h; unfold clsOf; split <;> first | (rename_i e; cases e; done) | simp
theorem cls_store {op : Op} (h : clsOf op = .store) : ∃ t x v, op = .store t x v := by
  cases op <;> try (simp [clsOf] at h; done)
  · exact ⟨_, _, _, rfl⟩
  · exfalso; revert h; unfold clsOf; split <;> first | (rename_i e; cases e; done) | simp
def clsClash : Cls → Cls → Bool
  | .app, .app | .new, .app | .store, .store | .store, .load | .load, .store => true
  | _, _ => false
theorem swappable_cls {r1 r2 : ORes} (h : clsClash (rcls r1) (rcls r2) = false) : swappable r1 r2 := by
  cases r1 <;> cases r2 <;> first | trivial | (simp [rcls, clsClash] at h)
theorem apart_rng {ρ : Operand → AV} {t t' : TypeId} {x x' : Operand} {i a j b : Nat} (h : apartAt P ρ (t, x) (t', x')) (h1 : ρ x = .box i a) (h2 : ρ x' = .box j b) : i ≠ j ∨ rngApart a (szOf P t) b (szOf P t') := by
  unfold apartAt at h
  simp only [h1, h2] at h
  exact h
theorem eff_swappable {x y : AOp} (h : indep x y = true) (env : Env) (gx gy : Bool) (hav : gy = true → ∀ p ∈ y.av, ∀ q, addrOf y.o.op = some q → apartAt P env.op p q) :
    swappable (effR P env gx x.o.op) (effR P env gy y.o.op) := by
  cases gx with
  | false => exact swappable_cls (by simp [effR, rcls, clsClash])
  | true =>
    cases gy with
    | false => exact swappable_cls (by simp only [effR, if_true, if_false, Bool.false_eq_true]; cases rcls (evalOp P env.op x.o.op) <;> rfl)
    | true =>
      simp only [effR, if_true]
      unfold indep at h
      simp only [Bool.and_eq_true] at h
      replace h := h.2
      have hav := hav rfl
      rcases rcls_of (P := P) (ρ := env.op) x.o.op with ex | ex
      · exact swappable_cls (by rw [ex]; cases rcls (evalOp P env.op y.o.op) <;> rfl)
      rcases rcls_of (P := P) (ρ := env.op) y.o.op with ey | ey
      · exact swappable_cls (by rw [ey]; cases rcls (evalOp P env.op x.o.op) <;> rfl)
      by_cases hcl : clsClash (clsOf x.o.op) (clsOf y.o.op) = false
      · exact swappable_cls (by rw [ex, ey]; exact hcl)
      · cases hcx : clsOf x.o.op <;> cases hcy : clsOf y.o.op <;> simp only [hcx, hcy, clsClash, not_true_eq_false, reduceCtorEq, Bool.true_eq_false, not_false_eq_true] at hcl h <;> try (cases h; done)
        · -- load, store
          obtain ⟨t, p, hx⟩ := cls_load hcx
          obtain ⟨t', p', v', hy⟩ := cls_store hcy
          rw [hx] at h ⊢
          rw [hy] at hav ⊢
          simp only [addrOf] at h hav
          have hap := hav _ (avHas_mem h) _ rfl
          rcases eval_load_shape (P := P) (ρ := env.op) (t := t) (x := p) with e | ⟨v, e⟩ | ⟨i, a, ag, e1, e, _⟩
          · rw [e]; exact swappable_cls (by cases evalOp P env.op (.store t' p' v') <;> rfl)
          · rw [e]; exact swappable_cls (by cases evalOp P env.op (.store t' p' v') <;> rfl)
          · rcases eval_store_shape (P := P) (ρ := env.op) (t := t') (x := p') (v := v') with f | ⟨j, b, cs, f1, f, f2⟩
            · rw [e, f]; trivial
            · rw [e, f]
              show _ ∨ _
              rw [f2]; exact apart_rng hap e1 f1
        · obtain ⟨t, p, v, hx⟩ := cls_store hcx
          obtain ⟨t', p', hy⟩ := cls_load hcy
          rw [hx] at h ⊢
          rw [hy] at hav ⊢
          simp only [addrOf] at h hav
          have hap := hav _ (avHas_mem h) _ rfl
          rcases eval_store_shape (P := P) (ρ := env.op) (t := t) (x := p) (v := v) with f | ⟨j, b, cs, f1, f, f2⟩
          · rw [f]; exact swappable_cls (by cases evalOp P env.op (.load t' p') <;> rfl)
          · rcases eval_load_shape (P := P) (ρ := env.op) (t := t') (x := p') with e | ⟨v, e⟩ | ⟨i, a, ag, e1, e, _⟩
            · rw [e, f]; trivial
            · rw [e, f]; trivial
            · rw [e, f]
              show _ ∨ _
              rw [f2]; exact apart_rng hap f1 e1
        · obtain ⟨t, p, v, hx⟩ := cls_store hcx
          obtain ⟨t', p', v', hy⟩ := cls_store hcy
          rw [hx] at h ⊢
          rw [hy] at hav ⊢
          simp only [addrOf] at h hav
          have hap := hav _ (avHas_mem h) _ rfl
          rcases eval_store_shape (P := P) (ρ := env.op) (t := t) (x := p) (v := v) with f | ⟨j, b, cs, f1, f, f2⟩
          · rw [f]; exact swappable_cls (by cases evalOp P env.op (.store t' p' v') <;> rfl)
          · rcases eval_store_shape (P := P) (ρ := env.op) (t := t') (x := p') (v := v') with g | ⟨j', b', cs', g1, g, g2⟩
            · rw [f, g]; trivial
            · rw [f, g]
              show _ ∨ _
              rw [f2, g2]; exact apart_rng hap f1 g1
theorem eff_load_pos {env : Env} {g : Bool} {x : AOp} {i a n : Nat} (h : effR P env g x.o.op = .load i a n false) : 0 < n := by
  cases g with
  | false => simp [effR] at h
  | true =>
    simp only [effR, if_true] at h
    have hc : clsOf x.o.op = .load := by
      rcases rcls_of (P := P) (ρ := env.op) x.o.op with e | e
      · rw [h] at e; cases e
      · rw [h] at e; exact e.symm
    obtain ⟨t, p, hx⟩ := cls_load hc
    rw [hx] at h
    rcases eval_load_shape (P := P) (ρ := env.op) (t := t) (x := p) with e | ⟨v, e⟩ | ⟨i, a, ag, e1, e, e2⟩ <;> rw [e] at h
    · cases h
    · cases h
    · injection h with h1 h2 h3 h4
      rw [← h3, e2 h4]; omega

theorem opT_swap {n : Nat} {cr : List (Nat × AV)} {x y : AOp} {K : Env → St → Prop} {env : Env} {st : St} (hi : indep x y = true) (hf : Fresh st)
    (h : opT P n cr x (fun e s => opT P n cr y K e s) env st) : opT P n cr y (fun e s => opT P n cr x K e s) env st := by
  obtain ⟨i1, i2, i3⟩ := indep_spec hi
  obtain ⟨hdx, gx, hgx, hax, hrx⟩ := opT_iff.1 h
  -- the second one, told over the first environment
  have hin : resKP P (crGet cr x.o.dst) (effR P env gx x.o.op) st fun v1 s1 => (dstOk n y.o.dst = true ∧ ∃ gy, guardV env y.g = some gy ∧ (gy = true → ∀ p ∈ y.av, ∀ q, addrOf y.o.op = some q → apartAt P env.op p q)) ∧
      ∀ gy, guardV env y.g = some gy → resKP P (crGet cr y.o.dst) (effR P env gy y.o.op) s1 fun v2 s2 => K ((env.put y.o.dst v2).put x.o.dst v1) s2 := by
    refine resKP_mono (fun v1 s1 hh => ?_) hrx
    obtain ⟨k1, gy, k2, k3, k4⟩ := opT_iff.1 hh
    rw [guardV_put i1] at k2
    refine ⟨⟨k1, gy, k2, fun e => (apart_put i1).1 (k3 e)⟩, fun gy' e => ?_⟩
    rw [k2] at e
    injection e with e
    subst e
    rw [effR_put i1] at k4
    refine resKP_mono (fun v2 s2 hk => ?_) k4
    rw [put_comm _ _ _ _ _ i3] at hk
    exact hk
  obtain ⟨⟨hdy, gy, hgy, hay⟩, hin⟩ := resKP_and hf hin
  have hin2 := resKP_mono (fun v1 s1 hh => hh gy hgy) hin
  have hsw := resKP_swap (u := crGet cr x.o.dst) (v := crGet cr y.o.dst) (eff_swappable hi env gx gy hay)
    (fun i a n hh => by rcases hh with hh | hh <;> exact eff_load_pos hh) hf hin2
  refine opT_iff.2 ⟨hdy, gy, hgy, hay, resKP_mono (fun v2 s1 hh => ?_) hsw⟩
  refine opT_iff.2 ⟨hdx, gx, by rw [guardV_put i2]; exact hgx, fun e => (apart_put i2).2 (hax e), ?_⟩
  rw [effR_put i2]
  exact hh
end
end Go.Sh

/- Shadow logic, part P: regions. -/
namespace Go.Sh
open Go.RowKit
section
variable {P : Program}

theorem Owns.fresh' {st0 st : St} {e sz n : Nat} {o : Own} (h : Owns st0 e sz n o st) (hf : Fresh st0) : Fresh st := by
  cases o with
  | no => exact h.elim
  | clip => simp only [Owns] at h; subst h; exact hf
  | op id => obtain ⟨_, h2⟩ := h; subst h2; exact hf.upd _ _
theorem resKP_monoF {rv : AV} {r : ORes} {st : St} {K K' : AV → St → Prop} (hf : Fresh st) (h : ∀ v st', Fresh st' → K v st' → K' v st') (hr : resKP P rv r st K) : resKP P rv r st K' := by
  cases r with
  | val v => exact h _ _ hf hr
  | load id off n ag => obtain ⟨t, cs, h1, h2, h3⟩ := (load_iff (P := P) (rv := rv)).1 hr; exact load_iff.2 ⟨t, cs, h1, h2, h _ _ hf h3⟩
  | store id off vs => obtain ⟨t, cs, h1, h2, h3⟩ := (store_iff (P := P) (rv := rv)).1 hr; exact store_iff.2 ⟨t, cs, h1, h2, h _ _ (hf.upd _ _) h3⟩
  | new t cs => exact fun id hid => h _ _ (hf.upd _ _) (hr id hid)
  | lit sz xs => exact h _ _ hf hr
  | app e sz by_ xs ys o => obtain ⟨st0, h1, h2⟩ := hr; exact ⟨st0, h1, fun o' st' ho => h _ _ (ho.fresh' (h1.fresh hf)) (h2 o' st' ho)⟩
  | call f args => exact ⟨hr.1, h _ _ hf hr.2⟩
  | mget => obtain ⟨v, h1, h2⟩ := (obs_iff (P := P) (rv := rv) rfl).1 hr; exact (obs_iff rfl).2 ⟨v, h1, h _ _ hf h2⟩
  | mlen => obtain ⟨v, h1, h2⟩ := (obs_iff (P := P) (rv := rv) rfl).1 hr; exact (obs_iff rfl).2 ⟨v, h1, h _ _ hf h2⟩
  | _ => exact hr.elim
theorem opT_monoF {n : Nat} {cr : List (Nat × AV)} {x : AOp} {K K' : Env → St → Prop} {env : Env} {st : St} (hf : Fresh st) (h : ∀ e s, Fresh s → K e s → K' e s) (hr : opT P n cr x K env st) : opT P n cr x K' env st := by
  obtain ⟨h1, g, h2, h3, h4⟩ := opT_iff.1 hr
  exact opT_iff.2 ⟨h1, g, h2, h3, resKP_monoF hf (fun v s hs => h _ s hs) h4⟩
theorem opT_sub {n : Nat} {cr : List (Nat × AV)} {x : AOp} {av : List (TypeId × Operand)} (hs : ∀ p ∈ av, p ∈ x.av) {K : Env → St → Prop} {env : Env} {st : St} (h : opT P n cr x K env st) : opT P n cr { x with av := av } K env st := by
  obtain ⟨h1, g, h2, h3, h4⟩ := opT_iff.1 h
  exact opT_iff.2 ⟨h1, g, h2, fun hg p hp => h3 hg p (hs p hp), h4⟩
theorem cut_mem {x : AOp} {s s' : List AOp} (h : ∀ z ∈ s', z ∈ s) : ∀ p ∈ (cutAv x s').av, p ∈ (cutAv x s).av := by
  intro p hp
  simp only [cutAv, List.mem_filter] at hp ⊢
  refine ⟨hp.1, ?_⟩
  obtain ⟨z, hz, hq⟩ := List.any_eq_true.1 hp.2
  exact List.any_eq_true.2 ⟨z, h z hz, hq⟩
theorem opT_cut {n : Nat} {cr : List (Nat × AV)} {x : AOp} {s s' : List AOp} (hs : ∀ z ∈ s', z ∈ s) {K : Env → St → Prop} {env : Env} {st : St} (h : opT P n cr (cutAv x s) K env st) : opT P n cr (cutAv x s') K env st :=
  opT_sub (x := cutAv x s) (cut_mem hs) h
theorem indep_cut {x y : AOp} {s s' : List AOp} (hs : ∀ z ∈ s', z ∈ s) (hy : y ∈ s') (h : indep y (cutAv x s) = true) : indep y (cutAv x s') = true := by
  have hl : ∀ d, d ∈ looks (cutAv x s') → d ∈ looks (cutAv x s) := by
    intro d hd
    simp only [looks, List.mem_append, List.mem_filterMap] at hd ⊢
    rcases hd with hd | ⟨p, hp, hd⟩
    · exact .inl hd
    · exact .inr ⟨p, cut_mem hs p hp, hd⟩
  unfold indep at h ⊢
  simp only [Bool.and_eq_true] at h ⊢
  obtain ⟨⟨h1, h2⟩, h3⟩ := h
  refine ⟨⟨?_, h2⟩, ?_⟩
  · cases hd : y.o.dst with
    | none => rfl
    | some d =>
      simp only [hd, Bool.and_eq_true, Bool.not_eq_true', List.contains_eq_mem, decide_eq_false_iff_not] at h1 ⊢
      exact ⟨fun hm => h1.1 (hl d hm), h1.2⟩
  · have key : ∀ p, addrOf y.o.op = some p → avHas (cutAv x s).av p = true → avHas (cutAv x s').av p = true := by
      intro p hp h
      unfold avHas at h ⊢
      obtain ⟨q, hq, he⟩ := List.any_eq_true.1 h
      refine List.any_eq_true.2 ⟨q, ?_, he⟩
      simp only [cutAv, List.mem_filter] at hq ⊢
      exact ⟨hq.1, List.any_eq_true.2 ⟨y, hy, by simp only [hp]; exact he⟩⟩
    cases hp : addrOf y.o.op with
    | none =>
      simp only [hp] at h3 ⊢
      exact h3
    | some p =>
      simp only [hp] at h3 ⊢
      revert h3
      show (match clsOf y.o.op, clsOf x.o.op with | .app, .app => false | .new, .app => false | .store, .store | .store, .load | .load, .store => avHas (cutAv x s).av p | _, _ => true) = true → (match clsOf y.o.op, clsOf x.o.op with | .app, .app => false | .new, .app => false | .store, .store | .store, .load | .load, .store => avHas (cutAv x s').av p | _, _ => true) = true
      cases clsOf y.o.op <;> cases clsOf x.o.op <;> first | exact fun h => h | exact key p hp
theorem bubble {n : Nat} {cr : List (Nat × AV)} {x : AOp} {l2 : List AOp} {K : Env → St → Prop} : ∀ (l1 pre : List AOp) {env : Env} {st : St}, Fresh st → (∀ l3 y l4, l1 = l3 ++ y :: l4 → indep y (cutAv x (pre ++ l3 ++ [y])) = true) →
    vcT P n cr (l1 ++ x :: l2) env st K → vcT P n cr (cutAv x pre :: (l1 ++ l2)) env st K
  | [], pre, _, _, _, _, h => opT_sub (x := x) (fun p hp => by simp only [List.mem_filter] at hp; exact hp.1) h
  | y :: l1, pre, env, st, hf, hi, h => by
    have h1 : opT P n cr y (fun e s => opT P n cr (cutAv x (pre ++ [y])) (fun e s => vcT P n cr (l1 ++ l2) e s K) e s) env st :=
      opT_monoF hf (fun e s hs hk => bubble l1 (pre ++ [y]) hs (fun l3 z l4 he => by
        have := hi (y :: l3) z l4 (by rw [he]; rfl)
        simpa using this) hk) h
    exact opT_cut (fun z hz => by simp [hz]) (opT_swap (by simpa using hi [] y l1 rfl) hf h1)

/-! ### the machine's side of one operation -/
variable {B n : Nat} {w0 w : World} {M : Mem} {st : St} {env : Env} {a : Act}

theorem Inv.fresh (hI : Inv B w0 M st w) : Fresh st := ⟨M.next, fun id hid => by
  cases hs : st id with
  | none => rfl
  | some o => have := hI.dom id o hs; omega⟩

theorem calls_fen {P : Program} {ro : Option Nat} {m : Nat} {f : FuncId} {args : Array Value} {w : World} {R : Ending → World → Prop} (h : Calls P f args w R) : CallsIn (fen ro) m P f args w R := by
  have h' : CallsIn Fence.wide m P f args w R := callsIn_wide.2 h
  cases ro with
  | none => exact h'
  | some l => exact CallsIn.inRound l h'
theorem rounds_fen {P : Program} {ro : Option Nat} {m l : Nat} {f : FuncId} {tmps : Array Value} {assign body : Code} {w : World} {R : Ending → World → Prop} (h : RoundIn Fence.wide m P l f tmps assign body w R) : RoundIn (fen ro) m P l f tmps assign body w R := by
  cases ro with
  | none => exact h
  | some l => exact h
theorem sem_fen {ro : Option Nat} {o : Oper} {ρ : Operand → Value} (h : ∀ c, o.op ≠ .defer c) : o.semAt ro ρ = execOp ρ o := by
  cases ro with
  | none => rfl
  | some l => exact Oper.semAt_some l ρ o h
theorem no_defer {P : Program} {ρ : Operand → AV} {op : Op} {st : St} {K : AV → St → Prop} (h : resK P (evalOp P ρ op) st K) : ∀ c, op ≠ .defer c := by
  rintro c rfl
  exact h.elim
theorem wp_of_out (hE : RepE M n env a) {o : Oper} (hd : dstOk n o.dst = true) {K : Env → St → Prop} {next : Act → World → Prop} {Q : Exit → Act → World → Prop}
    (hn : ∀ a' w', Post B w0 M n K a' w' → next a' w')
    (h : Out P B w0 M st w (fun v st' => K (env.put o.dst v) st') ((execOp a.eval o).run P w)) (hI : Inv B w0 M st w) (hnd : ∀ c, o.op ≠ .defer c) : o.wpIn (fen M.ro) 0 P a w next Q := by
  have hdn : ∀ i, o.dst = some i → i < n := by
    intro i hi
    rw [hi] at hd
    simpa [dstOk] using hd
  unfold Oper.wpIn
  refine ⟨fun _ _ => trivial, ?_⟩
  rw [show o.semAt (fen M.ro).round a.eval = execOp a.eval o from sem_fen hnd]
  generalize (execOp a.eval o).run P w = r at h
  cases r with
  | halt x w' => exact h.elim
  | ok nx w' =>
    cases nx <;> try exact h.elim
    case value x =>
      obtain ⟨M', v, st', h1, h2, h3, h4⟩ := h
      exact hn _ _ ⟨M', _, st', h1.lem, h2, (hE.mono h1).put o.dst hdn h3, h4⟩
    case skip =>
      obtain ⟨M', st', h1, h2, h4⟩ := h
      exact hn _ _ ⟨M', _, st', h1.lem, h2, (hE.mono h1).put o.dst hdn (.undef _), h4⟩
    case enter f vals =>
      obtain ⟨rfl, args, hr, hok, hc⟩ := h
      refine ⟨fun hd => (by simp [fen, Fence.wide] at hd), calls_fen ?_⟩
      refine (hc B w0 M w' vals hI hr).mono fun e w'' ⟨x, M', v, st', he, h1, h2, h3, h4⟩ => ?_
      subst he
      exact hn _ _ ⟨M', _, st', h1.lem, h2, (hE.mono h1).put o.dst hdn h3, h4⟩
    case round l f tmps assign body =>
      obtain ⟨rfl, h⟩ := h
      refine ⟨fun hd => (by simp [fen, Fence.wide] at hd), rounds_fen ?_⟩
      refine h.mono fun e w'' ⟨x, M', v, st', he, h1, h2, h3, h4⟩ => ?_
      subst he
      exact hn _ _ ⟨M', _, st', h1.lem, h2, (hE.mono h1).put o.dst hdn h3, h4⟩

def gMatch (ops : Array Oper) : Option (Nat × Bool) → Option (Nat × Bool) → Prop
  | none, none => True
  | some (j, w), some (s, w') => (ops[j]?).bind (·.dst) = some s ∧ w = w'
  | _, _ => False
theorem wanted_of_guard (hE : RepE M n env a) {ops : Array Oper} {o : Oper} {g : Option (Nat × Bool)} {b : Bool} (hg : guardV env g = some b)
    (hm : gMatch ops o.guard g) : Region.wanted o (yielded ops a.tmps) = b := by
  unfold Region.wanted
  cases ho : o.guard with
  | none =>
    cases g with
    | none => simp [guardV] at hg; simp [hg]
    | some p => simp [ho, gMatch] at hm
  | some p =>
    obtain ⟨j, w⟩ := p
    cases g with
    | none => simp [ho, gMatch] at hm
    | some q =>
      obtain ⟨s, w'⟩ := q
      simp only [ho, gMatch] at hm
      obtain ⟨h1, rfl⟩ := hm
      simp only [guardV] at hg
      have hs := hE.slot s
      cases he : env s <;> simp only [he] at hg <;> try (cases hg; done)
      case bool c =>
        rw [he] at hs
        have hsv : a.tmps[s]? = some (.bool c) := by
          rw [Array.getD_eq_getD_getElem?] at hs
          cases ht : a.tmps[s]? with
          | none => rw [ht] at hs; simp only [Option.getD_none] at hs; unfold Go.undef at hs; cases hs
          | some x => rw [ht] at hs; simp only [Option.getD_some] at hs; cases hs; rfl
        injection hg with hg
        subst hg
        unfold yielded
        simp only [h1, Option.bind_some, hsv]
        cases c <;> cases w <;> rfl
      case tup vs =>
        rw [he] at hs
        injection hg with hg
        subst hg
        have hsv : ∀ c, a.tmps[s]? ≠ some (.bool c) := by
          intro c hc
          rw [Array.getD_eq_getD_getElem?, hc] at hs
          simp only [Option.getD_some] at hs
          cases hs
        unfold yielded
        simp only [h1, Option.bind_some]
        generalize hz : a.tmps[s]? = z at *
        rcases z with _ | z
        · rfl
        · cases z <;> first | rfl | exact absurd rfl (hsv _)

/-! ### in the text's order -/
def gslot (dsts : List (Option Nat)) : Option (Nat × Bool) → Option (Nat × Bool)
  | none => none
  | some (j, w) => match dsts[j]? with
    | some (some s) => some (s, w)
    | _ => some (0, w)
def gOk (dsts : List (Option Nat)) : Option (Nat × Bool) → Bool
  | none => true
  | some (j, _) => match dsts[j]? with
    | some (some _) => true
    | _ => false
def vcOps (P : Program) (n : Nat) (dsts : List (Option Nat)) : List Oper → Env → St → (Env → St → Prop) → Prop
  | [], env, st, K => K env st
  | o :: r, env, st, K => gOk dsts o.guard = true ∧ dstOk n o.dst = true ∧ match guardV env (gslot dsts o.guard) with
    | some true => resK P (evalOp P env.op o.op) st (fun v st' => vcOps P n dsts r (env.put o.dst v) st' K)
    | some false => vcOps P n dsts r (env.put o.dst (.tup [])) st K
    | none => False
theorem gslot_ok {ops : List Oper} {o : Oper} (h : gOk (ops.map (·.dst)) o.guard = true) : gMatch ops.toArray o.guard (gslot (ops.map (·.dst)) o.guard) := by
  cases hg : o.guard with
  | none => trivial
  | some p =>
    obtain ⟨j, w⟩ := p
    rw [hg] at h
    simp only [gOk, gslot, gMatch, List.getElem?_map, List.getElem?_toArray] at h ⊢
    cases hj : ops[j]? with
    | none => simp [hj] at h
    | some o' =>
      cases hd : o'.dst with
      | none => simp [hj, hd] at h
      | some s => simp [hd, hj]
theorem vcOps_sound {all : List Oper} {K : Env → St → Prop} {Q : Exit → Act → World → Prop} : ∀ (l : List Oper) {M : Mem} {env : Env} {st : St} {a : Act} {w : World}, Inv B w0 M st w → RepE M n env a →
    (∀ a' w', Post B w0 M n K a' w' → Q .normal a' w') → vcOps P n (all.map (·.dst)) l env st K → wpListIn (fen M.ro) 0 P all.toArray Q l a w
  | [], M, env, st, a, w, hI, hE, hQ, h => hQ _ _ ⟨M, env, st, .refl M, hI, hE, h⟩
  | o :: r, M, env, st, a, w, hI, hE, hQ, h => by
    obtain ⟨h1, h2, h3⟩ := h
    cases hg : guardV env (gslot (all.map (·.dst)) o.guard) with
    | none => simp only [hg] at h3
    | some b =>
      have hw := wanted_of_guard hE hg (gslot_ok h1)
      have hrec : ∀ a' w', Post B w0 M n (fun env st => vcOps P n (all.map (·.dst)) r env st K) a' w' → wpListIn (fen M.ro) 0 P all.toArray Q r a' w' := by
        intro a' w' ⟨M', env', st', k1, k2, k3, k4⟩
        rw [← k1.ro]
        exact vcOps_sound r k2 k3 (fun a'' w'' ⟨M'', e'', s'', j1, j2, j3, j4⟩ => hQ _ _ ⟨M'', e'', s'', k1.trans j1, j2, j3, j4⟩) k4
      unfold wpListIn
      cases b with
      | true =>
        rw [hw, if_pos rfl]
        simp only [hg] at h3
        exact (wp_of_out hE h2 hrec (evalOp_sound hI hE o h3) hI (no_defer h3))
      | false =>
        rw [hw, if_neg (by simp)]
        simp only [hg] at h3
        have hdn : ∀ i, o.dst = some i → i < n := by
          intro i hi
          rw [hi] at h2
          simpa [dstOk] using h2
        exact ⟨fun _ _ => trivial, hrec _ _ ⟨M, _, st, .refl M, hI, hE.put o.dst hdn (.tup [] #[] rfl fun _ => .undef _), h3⟩⟩
end
end Go.Sh

/- Shadow logic, part Q: a region that draws its order, from the text's order. -/
namespace Go.Sh
open Go.RowKit

def aops (dsts : List (Option Nat)) : List Oper → List (List (TypeId × Operand)) → List AOp
  | [], _ => []
  | o :: r, avs => ⟨o, gslot dsts o.guard, avs.headD []⟩ :: aops dsts r avs.tail
def hasEdge (o : Oper) (j : Nat) : Bool := o.after.any fun e => Region.binds .any e && e.on == j
def drawOk (ops : List Oper) (avs : List (List (TypeId × Operand))) : Bool :=
  let xs := aops (ops.map (·.dst)) ops avs
  (xs.zipIdx.all fun (x, i) => gOk (ops.map (·.dst)) x.o.guard && (x.o.after.all fun e => !Region.binds .any e || decide (e.on < i)) &&
    ((xs.take i).zipIdx.all fun (y, j) => hasEdge x.o j || indep y (cutAv x (xs.take (j + 1)))))

def rem (listed : Array Bool) : List AOp → Nat → List AOp
  | [], _ => []
  | x :: xs, k => if listed.getD k true then rem listed xs (k + 1) else x :: rem listed xs (k + 1)
theorem rem_append (listed : Array Bool) : ∀ (xs ys : List AOp) (k : Nat), rem listed (xs ++ ys) k = rem listed xs k ++ rem listed ys (k + xs.length)
  | [], ys, k => by simp [rem]
  | x :: xs, ys, k => by
    simp only [List.cons_append, rem, rem_append listed xs ys (k + 1), List.length_cons, Nat.add_assoc, Nat.add_comm 1]
    split <;> rfl
theorem getD_set_other (listed : Array Bool) (i j : Nat) (d : Bool) (h : i ≠ j) : (listed.setIfInBounds i true).getD j d = listed.getD j d := by
  rw [Array.getD_eq_getD_getElem?, Array.getD_eq_getD_getElem?, Array.getElem?_setIfInBounds_ne h]
theorem rem_set (listed : Array Bool) (i : Nat) : ∀ (xs : List AOp) (k : Nat), (i < k ∨ k + xs.length ≤ i) → rem (listed.setIfInBounds i true) xs k = rem listed xs k
  | [], k, _ => rfl
  | x :: xs, k, h => by
    simp only [List.length_cons] at h
    simp only [rem]
    rw [getD_set_other _ _ _ _ (by omega), rem_set listed i xs (k + 1) (by omega)]
theorem rem_split {listed : Array Bool} {y : AOp} {l4 : List AOp} : ∀ (l : List AOp) (k : Nat) (l3 : List AOp), rem listed l k = l3 ++ y :: l4 → ∃ j, l[j]? = some y ∧ listed.getD (k + j) true = false ∧ ∀ z ∈ l3, z ∈ l.take j
  | [], k, l3, h => by simp [rem] at h
  | x :: xs, k, l3, h => by
    simp only [rem] at h
    split at h
    · obtain ⟨j, h1, h2, h3⟩ := rem_split xs (k + 1) l3 h
      exact ⟨j + 1, by simpa using h1, by rw [← h2]; congr 1; omega, fun z hz => by simp [h3 z hz]⟩
    · rename_i hl
      cases l3 with
      | nil =>
        simp only [List.nil_append, List.cons.injEq] at h
        exact ⟨0, by simp [h.1], by simpa using hl, fun z hz => by cases hz⟩
      | cons z l3 =>
        simp only [List.cons_append, List.cons.injEq] at h
        obtain ⟨j, h1, h2, h3⟩ := rem_split xs (k + 1) l3 h.2
        refine ⟨j + 1, by simpa using h1, by rw [← h2]; congr 1; omega, fun w hw => ?_⟩
        rcases List.mem_cons.1 hw with rfl | hw
        · simp [h.1]
        · simp [h3 w hw]
theorem mem_rem {listed : Array Bool} {y : AOp} : ∀ {xs : List AOp} {k : Nat}, y ∈ rem listed xs k → ∃ j, xs[j]? = some y ∧ listed.getD (k + j) true = false
  | [], _, h => by simp [rem] at h
  | x :: xs, k, h => by
    simp only [rem] at h
    split at h
    · obtain ⟨j, h1, h2⟩ := mem_rem h
      exact ⟨j + 1, by simpa using h1, by rw [show k + (j + 1) = k + 1 + j by omega]; exact h2⟩
    · rename_i hk
      rcases List.mem_cons.1 h with e | h
      · exact ⟨0, by simp [e], by simpa using hk⟩
      · obtain ⟨j, h1, h2⟩ := mem_rem h
        exact ⟨j + 1, by simpa using h1, by rw [show k + (j + 1) = k + 1 + j by omega]; exact h2⟩
theorem rem_nil {listed : Array Bool} : ∀ {xs : List AOp} {k : Nat}, (∀ j, j < xs.length → listed.getD (k + j) true = true) → rem listed xs k = []
  | [], _, _ => rfl
  | x :: xs, k, h => by
    have h0 := h 0 (by simp)
    rw [Nat.add_zero] at h0
    simp only [rem, h0, if_true]
    exact rem_nil fun j hj => by rw [show k + 1 + j = k + (j + 1) by omega]; exact h (j + 1) (by simp; omega)
theorem aops_get (dsts : List (Option Nat)) : ∀ (ops : List Oper) (avs : List (List (TypeId × Operand))) (i : Nat), (aops dsts ops avs)[i]? = (ops[i]?).map fun o => ⟨o, gslot dsts o.guard, avs.getD i []⟩
  | [], _, i => by simp [aops]
  | o :: r, avs, 0 => by cases avs <;> simp [aops]
  | o :: r, avs, i + 1 => by
    simp only [aops, List.getElem?_cons_succ, aops_get dsts r avs.tail i]
    cases avs <;> simp
theorem aops_length (dsts : List (Option Nat)) : ∀ (ops : List Oper) (avs : List (List (TypeId × Operand))), (aops dsts ops avs).length = ops.length
  | [], _ => rfl
  | o :: r, avs => by simp [aops, aops_length dsts r avs.tail]

section
variable {P : Program} {B n : Nat} {w0 : World}

theorem draw_sound {ops : List Oper} {avs : List (List (TypeId × Operand))} (hc : drawOk ops avs = true) {cr : List (Nat × AV)} {K : Env → St → Prop} {Q : Exit → Act → World → Prop} :
    ∀ (fuel : Nat) (listed : Array Bool) {M : Mem} {env : Env} {st : St} {a : Act} {w : World}, listed.size = ops.length → (∀ i, listed.getD i true = false → i < ops.length) → ((List.range ops.length).filter fun i => !listed.getD i true).length ≤ fuel →
    Inv B w0 M st w → RepE M n env a → (∀ a' w', Post B w0 M n K a' w' → Q .normal a' w') →
    vcT P n cr (rem listed (aops (ops.map (·.dst)) ops avs) 0) env st K → wpAnyIn (fen M.ro) 0 P .any ops.toArray Q fuel listed a w := by
  intro fuel
  induction fuel with
  | zero =>
    intro listed M env st a w hs _ hcnt hI hE hQ h
    have hall : ∀ j, j < ops.length → listed.getD j true = true := by
      intro j hj
      have hnil : (List.range ops.length).filter (fun i => !listed.getD i true) = [] := List.length_eq_zero_iff.1 (Nat.le_zero.1 hcnt)
      have := List.filter_eq_nil_iff.1 hnil j (List.mem_range.2 hj)
      simpa using this
    have hrem : rem listed (aops (ops.map (·.dst)) ops avs) 0 = [] := rem_nil fun j hj => by rw [aops_length] at hj; rw [Nat.zero_add]; exact hall j hj
    rw [hrem] at h
    refine ⟨?_, hQ _ _ ⟨M, env, st, .refl M, hI, hE, h⟩⟩
    unfold Region.ready
    refine List.filter_eq_nil_iff.2 fun i hi => ?_
    have := List.mem_range.1 hi
    simp only [List.size_toArray] at this
    simp [hall i this]
  | succ fuel ih =>
    intro listed M env st a w hs hlt hcnt hI hE hQ h
    have hlen := aops_length (ops.map (·.dst)) ops avs
    refine ⟨fun hr => ?_, fun i hi => ?_⟩
    · -- nothing is ready: nothing is left
      have hall : ∀ j, j < ops.length → listed.getD j true = true := by
        intro j
        induction j using Nat.strongRecOn with
        | _ j ihj =>
          intro hj
          cases hl : listed.getD j true with
          | true => rfl
          | false =>
            exfalso
            have hmem : j ∈ Region.ready .any ops.toArray listed := by
              unfold Region.ready
              refine List.mem_filter.2 ⟨List.mem_range.2 (by simpa using hj), ?_⟩
              have hgo : ops[j]? = some ops[j] := List.getElem?_eq_getElem hj
              simp only [hl, Bool.not_false, Bool.true_and, List.getElem?_toArray, hgo, Option.map_some, Option.getD_some, Array.all_eq_true']
              intro e he
              have hck := hc
              unfold drawOk at hck
              have hx : (aops (ops.map (·.dst)) ops avs)[j]? = some ⟨ops[j], gslot (ops.map (·.dst)) ops[j].guard, avs.getD j []⟩ := by rw [aops_get, hgo]; rfl
              have := List.all_eq_true.1 hck (⟨ops[j], gslot (ops.map (·.dst)) ops[j].guard, avs.getD j []⟩, j) (by rw [List.mem_iff_getElem?]; exact ⟨j, by simp [List.getElem?_zipIdx, hx]⟩)
              simp only [Bool.and_eq_true] at this
              have hed := Array.all_eq_true'.1 this.1.2 e he
              simp only [Bool.or_eq_true, Bool.not_eq_true', decide_eq_true_eq] at hed ⊢
              rcases hed with hb | hb
              · exact .inl hb
              · right
                have h1 := ihj e.on hb (by omega)
                have hlt' : e.on < listed.size := by rw [hs]; omega
                rw [Array.getD_eq_getD_getElem?, Array.getElem?_eq_getElem hlt', Option.getD_some] at h1 ⊢
                exact h1
            rw [hr] at hmem
            cases hmem
      have hrem : rem listed (aops (ops.map (·.dst)) ops avs) 0 = [] := rem_nil fun j hj => by rw [hlen] at hj; rw [Nat.zero_add]; exact hall j hj
      rw [hrem] at h
      exact hQ _ _ ⟨M, env, st, .refl M, hI, hE, h⟩
    · -- number i comes up
      obtain ⟨hi1, hi2⟩ := List.mem_filter.1 hi
      have hilt : i < ops.length := by simpa using List.mem_range.1 hi1
      have hgo : ops[i]? = some ops[i] := List.getElem?_eq_getElem hilt
      simp only [Bool.and_eq_true, Bool.not_eq_true', List.getElem?_toArray, hgo, Option.map_some, Option.getD_some] at hi2
      obtain ⟨hnl, hready⟩ := hi2
      generalize hX : aops (ops.map (·.dst)) ops avs = xs at *
      let xi : AOp := ⟨ops[i], gslot (ops.map (·.dst)) ops[i].guard, avs.getD i []⟩
      have hxi : xs[i]? = some xi := by rw [← hX, aops_get, hgo]; rfl
      have hix : i < xs.length := by omega
      have hxe : xs[i] = xi := by rw [List.getElem?_eq_getElem hix] at hxi; injection hxi
      have hsplit : xs = xs.take i ++ xi :: xs.drop (i + 1) := by
        rw [← hxe, List.getElem_cons_drop, List.take_append_drop]
      have hlt1 : (xs.take i).length = i := by simp; omega
      have hrem1 : rem listed xs 0 = rem listed (xs.take i) 0 ++ xi :: rem listed (xs.drop (i + 1)) (i + 1) := by
        conv => lhs; rw [hsplit]
        rw [rem_append, hlt1, Nat.zero_add]
        simp only [rem, hnl, Bool.false_eq_true, if_false]
      have hrem2 : rem (listed.setIfInBounds i true) xs 0 = rem listed (xs.take i) 0 ++ rem listed (xs.drop (i + 1)) (i + 1) := by
        conv => lhs; rw [hsplit]
        rw [rem_append, hlt1, Nat.zero_add]
        have hset : (listed.setIfInBounds i true).getD i true = true := by
          rw [Array.getD_eq_getD_getElem?]
          have : i < listed.size := by omega
          simp [this]
        simp only [rem, hset, if_true]
        rw [rem_set _ _ _ _ (by omega), rem_set _ _ _ _ (by omega)]
      have hck := hc
      unfold drawOk at hck
      rw [hX] at hck
      have hcki := List.all_eq_true.1 hck (xi, i) (by rw [List.mem_iff_getElem?]; exact ⟨i, by simp [List.getElem?_zipIdx, hxi]⟩)
      simp only [Bool.and_eq_true] at hcki
      obtain ⟨⟨hgok, _⟩, hpairs⟩ := hcki
      rw [hrem1] at h
      have hb := bubble (rem listed (xs.take i) 0) [] hI.fresh (fun l3 y l4 hrm => by
        obtain ⟨j, hj1, hj2, hj3⟩ := rem_split _ _ _ hrm
        rw [Nat.zero_add] at hj2
        have hpj := List.all_eq_true.1 hpairs (y, j) (by rw [List.mem_iff_getElem?]; exact ⟨j, by simp [List.getElem?_zipIdx, hj1]⟩)
        simp only [Bool.or_eq_true] at hpj
        rcases hpj with he | he
        · exfalso
          unfold hasEdge at he
          obtain ⟨k, hk, he⟩ := Array.any_eq_true.1 he
          simp only [Bool.and_eq_true, beq_iff_eq] at he
          have hal := Array.all_eq_true'.1 hready _ (Array.getElem_mem hk)
          have hal' : (!Region.binds .any (ops[i].after[k]) || listed.getD (ops[i].after[k]).on false) = true := hal
          have e1 : Region.binds .any (ops[i].after[k]) = true := he.1
          have e2 : (ops[i].after[k]).on = j := he.2
          rw [e1, e2] at hal'
          simp only [Bool.not_true, Bool.false_or] at hal'
          have hjl : j < listed.size := by
            have := (List.getElem?_eq_some_iff.1 hj1).1
            simp at this; omega
          rw [Array.getD_eq_getD_getElem?, Array.getElem?_eq_getElem hjl, Option.getD_some] at hj2 hal'
          rw [hj2] at hal'; cases hal'
        · have hji : j < i := by
            have := (List.getElem?_eq_some_iff.1 hj1).1
            rw [hlt1] at this; exact this
          have htk : ∀ m, m ≤ i → (xs.take i).take m = xs.take m := fun m hm => by rw [List.take_take, Nat.min_eq_left hm]
          refine indep_cut (fun z hz => ?_) (by simp) he
          simp only [List.nil_append, List.mem_append, List.mem_singleton] at hz
          have hjx : xs[j]? = some y := by rw [List.getElem?_take_of_lt hji] at hj1; exact hj1
          rcases hz with hz | rfl
          · have := hj3 z hz
            rw [htk j (by omega)] at this
            exact List.take_subset_take_left xs (by omega) this
          · rw [List.mem_iff_getElem?]
            exact ⟨j, by rw [List.getElem?_take_of_lt (by omega)]; exact hjx⟩) h
      rw [← hrem2] at hb
      obtain ⟨hd, g, hgv, _, hres⟩ := opT_iff.1 hb
      have hw := wanted_of_guard hE hgv (gslot_ok (ops := ops) hgok)
      have hcnt' : ((List.range ops.length).filter fun j => !(listed.setIfInBounds i true).getD j true).length ≤ fuel := by
        have : ((List.range ops.length).filter fun j => !(listed.setIfInBounds i true).getD j true).length < ((List.range ops.length).filter fun j => !listed.getD j true).length := by
          have hsub : ((List.range ops.length).filter fun j => !(listed.setIfInBounds i true).getD j true) = ((List.range ops.length).filter fun j => !listed.getD j true).filter fun j => j != i := by
            rw [List.filter_filter]
            refine List.filter_congr fun j hj => ?_
            by_cases hji : j = i
            · subst hji
              have : j < listed.size := by omega
              rw [Array.getD_eq_getD_getElem?]
              simp [this]
            · rw [getD_set_other _ _ _ _ (Ne.symm hji)]
              simp [hji]
          rw [hsub]
          have := List.length_filter_lt_length_iff_exists (l := (List.range ops.length).filter fun j => !listed.getD j true) (p := fun j => j != i)
          refine this.2 ⟨i, List.mem_filter.2 ⟨List.mem_range.2 hilt, by rw [hnl]; rfl⟩, by simp⟩
        omega
      have hrec : ∀ a' w', Post B w0 M n (fun env st => vcT P n cr (rem (listed.setIfInBounds i true) xs 0) env st K) a' w' → wpAnyIn (fen M.ro) 0 P .any ops.toArray Q fuel (listed.setIfInBounds i true) a' w' := by
        intro a' w' ⟨M', env', st', k1, k2, k3, k4⟩
        rw [← k1.ro]
        refine ih (listed.setIfInBounds i true) (by simpa using hs) (fun j hj => ?_) hcnt' k2 k3 (fun a'' w'' ⟨M'', e'', s'', j1, j2, j3, j4⟩ => hQ _ _ ⟨M'', e'', s'', k1.trans j1, j2, j3, j4⟩) k4
        by_cases hji : j = i
        · subst hji; exact hilt
        · rw [getD_set_other _ _ _ _ (Ne.symm hji)] at hj; exact hlt j hj
      unfold wpOpIn
      simp only [List.getElem?_toArray, hgo]
      cases g with
      | true =>
        rw [hw, if_pos rfl]
        simp only [effR, if_true] at hres
        exact (wp_of_out hE hd hrec (evalOp_sound hI hE _ (resK_of_P hres)) hI (no_defer (resK_of_P hres)))
      | false =>
        rw [hw, if_neg (by simp)]
        have hdn : ∀ k, ops[i].dst = some k → k < n := by
          intro k hk
          have hd' : dstOk n ops[i].dst = true := hd
          rw [hk] at hd'
          simpa [dstOk] using hd'
        exact ⟨fun _ _ => trivial, hrec _ _ ⟨M, _, st, .refl M, hI, hE.put _ hdn (.tup [] #[] rfl fun _ => .undef _), hres⟩⟩
end
end Go.Sh

/- Shadow logic, part R: code and calls. -/
namespace Go.Sh
open Go.RowKit

/-- A value that says less. -/
def AV.sub (u v : AV) : Prop := ∀ M x, RepV M v x → RepV M u x
theorem AV.sub.refl (v : AV) : AV.sub v v := fun _ _ h => h
theorem AV.sub.of_eq {u v : AV} (h : u = v) : AV.sub u v := h ▸ .refl _
theorem AV.sub.undef (v : AV) : AV.sub .undef v := fun _ x _ => .undef x
theorem AV.sub.trans {u v x : AV} (h : AV.sub u v) (k : AV.sub v x) : AV.sub u x := fun M y hy => h M y (k M y hy)
theorem AV.sub.list (sz : Nat) (xs : List (List AV)) (o : Own) : AV.sub (.list sz xs .no) (.list sz xs o) := by
  intro M x h
  cases h with
  | nils _ _ ho => exact .nils _ _ (fun _ e => by cases e)
  | list _ _ _ a cap g hF hg hl hc hm hoo => exact .list _ _ _ a cap g hF hg hl hc hm trivial
theorem AV.sub.list_of_eq {sz : Nat} {xs ys : List (List AV)} {o : Own} (h : xs = ys) : AV.sub (.list sz xs .no) (.list sz ys o) := h ▸ .list sz xs o
theorem AV.sub.nil (sz sz' : Nat) (o o' : Own) (ho : o = .no ∨ (o = .clip ∧ o' = .clip)) : AV.sub (.list sz [] o) (.list sz' [] o') := by
  intro M x h
  generalize hxs : ([] : List (List AV)) = xs at h
  cases h with
  | nils _ _ ho' => exact .nils _ _ (fun _ e => by rcases ho with h | h <;> simp_all)
  | list _ _ _ a cap g hF hg hl hc hm hoo =>
    subst hxs
    refine .list sz [] o a cap g (fun i j hi => by simp at hi) hg (fun i hi => by simp at hi) hc hm ?_
    rcases ho with rfl | ⟨rfl, rfl⟩
    · trivial
    · exact hoo
theorem AV.sub.agg {cs ds : List AV} (hl : cs.length = ds.length) (h : ∀ j, AV.sub (cs.getD j .undef) (ds.getD j .undef)) : AV.sub (.agg cs) (.agg ds) := by
  intro M x hx
  cases hx with
  | agg _ vs hs hr => exact .agg _ _ (hs.trans hl.symm) fun j => h j M _ (hr j)
theorem AV.sub.tup {cs ds : List AV} (hl : cs.length = ds.length) (h : ∀ j, AV.sub (cs.getD j .undef) (ds.getD j .undef)) : AV.sub (.tup cs) (.tup ds) := by
  intro M x hx
  cases hx with
  | tup _ vs hs hr => exact .tup _ _ (hs.trans hl.symm) fun j => h j M _ (hr j)
theorem sub_nil (j : Nat) : AV.sub (([] : List AV).getD j .undef) (([] : List AV).getD j .undef) := .refl _
theorem sub_cons {u v : AV} {us vs : List AV} (h : AV.sub u v) (k : ∀ j, AV.sub (us.getD j .undef) (vs.getD j .undef)) : ∀ j, AV.sub ((u :: us).getD j .undef) ((v :: vs).getD j .undef)
  | 0 => h
  | j + 1 => k j
def Env.sub (e e' : Env) : Prop := ∀ d, AV.sub (e d) (e' d)
theorem Env.sub.refl (e : Env) : Env.sub e e := fun _ => .refl _
theorem RepE.sub {M : Mem} {n : Nat} {e e' : Env} {a : Act} (k : RepE M n e' a) (h : Env.sub e e') : RepE M n e a := ⟨k.size, k.defers, fun d => h d M _ (k.slot d)⟩
theorem Env.sub_ofList {l : List (Nat × AV)} {e : Env} (h : ∀ p ∈ l, AV.sub p.2 (e p.1)) : Env.sub (Env.ofList l) e := by
  intro d
  induction l with
  | nil => exact .undef _
  | cons p l ih =>
    obtain ⟨k, v⟩ := p
    simp only [Env.ofList]
    by_cases hd : d = k
    · rw [if_pos hd, hd]; exact h (k, v) (by simp)
    · rw [if_neg hd]; exact ih fun q hq => h q (by simp [hq])

section
variable {P : Program} {n : Nat} {Q : Exit → Env → St → Prop} {env : Env} {st : St}

theorem Post.mono {B : Nat} {w0 : World} {M : Mem} {n : Nat} {K K' : Env → St → Prop} {a : Act} {w : World} (h : ∀ e s, K e s → K' e s) (hp : Post B w0 M n K a w) : Post B w0 M n K' a w :=
  let ⟨M', e, s, h1, h2, h3, h4⟩ := hp
  ⟨M', e, s, h1, h2, h3, h _ _ h4⟩
theorem Post.le {B : Nat} {w0 : World} {M M1 : Mem} {n : Nat} {K : Env → St → Prop} {a : Act} {w : World} (hM : M.lem M1) (hp : Post B w0 M1 n K a w) : Post B w0 M n K a w :=
  let ⟨M', e, s, h1, h2, h3, h4⟩ := hp
  ⟨M', e, s, hM.trans h1, h2, h3, h4⟩
theorem dwp_mono {c : Code} {Q' : Exit → Env → St → Prop} (h : ∀ e env st, Q e env st → Q' e env st) (hc : dwp P n c Q env st) : dwp P n c Q' env st :=
  fun B w0 M a w hI hE => wpIn_mono (hc B w0 M a w hI hE) fun _ _ _ hp => hp.mono fun _ _ => h _ _ _
theorem dwp_weaken {c : Code} {env' : Env} {st' : St} (h : Env.sub env' env) (k : St.le st' st) (hc : dwp P n c Q env' st') : dwp P n c Q env st :=
  fun B w0 M a w hI hE => hc B w0 M a w (hI.weaken k) (hE.sub h)
theorem dwp_skip (h : Q .normal env st) : dwp P n .skip Q env st := fun _ _ M _ _ hI hE => wpIn_skip ⟨M, env, st, .refl M, hI, hE, h⟩
theorem dwp_ret (h : Q .ret env st) : dwp P n .ret Q env st := fun _ _ M _ _ hI hE => wpIn_ret ⟨M, env, st, .refl M, hI, hE, h⟩
theorem dwp_exit {id : Nat} (h : Q (.exit id) env st) : dwp P n (.exit id) Q env st := fun _ _ M _ _ hI hE => wpIn_exit ⟨M, env, st, .refl M, hI, hE, h⟩
theorem dwp_goto {l : Nat} (h : Q (.goto l) env st) : dwp P n (.goto l) Q env st := fun _ _ M _ _ hI hE => wpIn_goto ⟨M, env, st, .refl M, hI, hE, h⟩
theorem dwp_label {l : Nat} (h : Q .normal env st) : dwp P n (.label l) Q env st := fun _ _ M _ _ hI hE => wpIn_label ⟨M, env, st, .refl M, hI, hE, h⟩
/-- The exits of a sequence's first part. -/
def thenQ (K : Env → St → Prop) (Q : Exit → Env → St → Prop) : Exit → Env → St → Prop
  | .normal => K
  | e => Q e
theorem dwp_seq {c d : Code} (h : dwp P n c (thenQ (fun env st => dwp P n d Q env st) Q) env st) : dwp P n (.seq c d) Q env st := by
  intro B w0 M a w hI hE
  refine wpIn_seq (wpIn_mono (h B w0 M a w hI hE) fun e a' w' hp => ?_)
  cases e with
  | normal =>
    obtain ⟨M', e', s', h1, h2, h3, h4⟩ := hp
    rw [← h1.ro]
    exact wpIn_mono (h4 B w0 M' a' w' h2 h3) fun _ _ _ hp => hp.le h1
  | _ => exact hp
theorem dwp_seq_k {c d : Code} (h : ∀ K : Env → St → Prop, (∀ env st, dwp P n d Q env st → K env st) → dwp P n c (thenQ K Q) env st) : dwp P n (.seq c d) Q env st :=
  dwp_seq (h _ fun _ _ h => h)
theorem dwp_cond {x : Operand} {c d : Code} {t : Bool} (hx : env.op x = .bool t) (h1 : t = true → dwp P n c Q env st) (h2 : t = false → dwp P n d Q env st) : dwp P n (.cond x c d) Q env st := by
  intro B w0 M a w hI hE
  have hr := hE.op x
  rw [hx] at hr
  have hv : a.eval x = .bool t := by generalize a.eval x = z at hr; cases hr; rfl
  refine wpIn_cond hv ?_
  cases t with
  | true => exact h1 rfl B w0 M a w hI hE
  | false => exact h2 rfl B w0 M a w hI hE
def blockQ (id : Nat) (Q : Exit → Env → St → Prop) : Exit → Env → St → Prop
  | .exit i => if i = id then Q .normal else Q (.exit i)
  | e => Q e
theorem dwp_block {id : Nat} {c : Code} (h : dwp P n c (blockQ id Q) env st) : dwp P n (.block id c) Q env st := by
  intro B w0 M a w hI hE
  refine wpIn_block (wpIn_mono (h B w0 M a w hI hE) fun e a' w' hp => ?_)
  cases e with
  | exit i =>
    simp only [Exit.inBlock]
    simp only [blockQ] at hp
    by_cases hi : i = id
    · rw [if_pos hi] at hp ⊢; exact hp
    · rw [if_neg hi] at hp ⊢; exact hp
  | _ => exact hp
theorem dwp_region {id : Nat} {ops : Array Oper} (h : vcOps P n (ops.toList.map (·.dst)) ops.toList env st (Q .normal)) : dwp P n (.region id ops false) Q env st := by
  intro B w0 M a w hI hE
  refine wpIn_region_list ?_
  have := vcOps_sound (Q := fun e a' w' => Post B w0 M n (Q e) a' w') ops.toList hI hE (fun _ _ hp => hp) h
  simpa using this
theorem dwp_region_draw {id : Nat} {ops : Array Oper} (hm : P.follows .mixedOrders = true) (avs : List (List (TypeId × Operand))) (cr : List (Nat × AV)) (hc : drawOk ops.toList avs = true)
    (h : vcT P n cr (aops (ops.toList.map (·.dst)) ops.toList avs) env st (Q .normal)) : dwp P n (.region id ops true) Q env st := by
  intro B w0 M a w hI hE
  refine wpIn_region_any hm ?_
  have hrem : rem (Array.replicate ops.size false) (aops (ops.toList.map (·.dst)) ops.toList avs) 0 = aops (ops.toList.map (·.dst)) ops.toList avs := by
    have hl := aops_length (ops.toList.map (·.dst)) ops.toList avs
    have key : ∀ (xs : List AOp) (k : Nat), k + xs.length ≤ ops.size → rem (Array.replicate ops.size false) xs k = xs := by
      intro xs
      induction xs with
      | nil => intro k _; rfl
      | cons x xs ih =>
        intro k hk
        simp only [List.length_cons] at hk
        have : (Array.replicate ops.size false).getD k true = false := by
          rw [Array.getD_eq_getD_getElem?]
          simp [show k < ops.size by omega]
        simp only [rem, this, Bool.false_eq_true, if_false]
        rw [ih (k + 1) (by omega)]
    exact key _ 0 (by simp at hl; omega)
  have hw : ({ w with drawn := w.drawn + 1 } : World) = w.drew := rfl
  rw [hw]
  have := draw_sound (Q := fun e a' w' => Post B w0 M n (Q e) a' w') (K := Q .normal) hc ops.size (Array.replicate ops.size false) (by simp)
    (fun i hi => by
      rw [Array.getD_eq_getD_getElem?] at hi
      by_cases h : i < ops.size
      · simpa using h
      · simp [h] at hi) (by
        have := List.length_filter_le (fun i => !(Array.replicate ops.size false).getD i true) (List.range ops.toList.length)
        simpa using this) hI.drew hE (fun _ _ hp => hp) (cr := cr) (by rw [hrem]; exact h)
  simpa using this
/-- A loop: its states at a round's head, a number that falls. -/
theorem dwp_loop {α : Type} {c : Code} (I : α → Env) (S : α → St) (ok : α → Prop) (μ : α → Nat) (x0 : α) (h0 : ok x0) (he : Env.sub (I x0) env) (hs : St.le (S x0) st)
    (round : ∀ x, ok x → ∀ K : Env → St → Prop, (∀ y env st, ok y → μ y < μ x → Env.sub (I y) env → St.le (S y) st → K env st) → dwp P n c (thenQ K Q) (I x) (S x)) : dwp P n (.loop c) Q env st := by
  intro B w0 M a w hI hE
  refine wpIn_loop_ghost (fun m a w => ∃ x M', m = μ x ∧ ok x ∧ M.lem M' ∧ Inv B w0 M' (S x) w ∧ RepE M' n (I x) a) (μ x0) ⟨x0, M, rfl, h0, .refl M, hI.weaken hs, hE.sub he⟩ ?_
  rintro m a' w' ⟨x, M', rfl, hok, hM, hI', hE'⟩
  rw [← hM.ro]
  have := round x hok (fun e s => ∃ y, ok y ∧ μ y < μ x ∧ Env.sub (I y) e ∧ St.le (S y) s) (fun y e s h1 h2 h3 h4 => ⟨y, h1, h2, h3, h4⟩) B w0 M' a' w' hI' hE'
  refine wpIn_mono this fun e a2 w2 hp => ?_
  cases e with
  | normal =>
    obtain ⟨M2, e2, s2, k1, k2, k3, y, k4, k5, k6, k7⟩ := hp
    exact ⟨μ y, k5, y, M2, rfl, k4, hM.trans k1, k2.weaken k7, k3.sub k6⟩
  | _ => exact hp.le hM

/-! ### calls -/
def Env.args : List AV → Nat → Env
  | [], _ => fun _ => .undef
  | v :: r, k => fun i => if i = k then v else Env.args r (k + 1) i
theorem args_get : ∀ (l : List AV) (k d : Nat), Env.args l k d = if k ≤ d then l.getD (d - k) .undef else .undef
  | [], k, d => by simp [Env.args]
  | v :: r, k, d => by
    simp only [Env.args, args_get r (k + 1) d]
    by_cases h : d = k
    · subst h; simp
    · rw [if_neg h]
      by_cases h1 : k ≤ d
      · rw [if_pos (by omega), if_pos h1, show d - k = (d - (k + 1)) + 1 by omega]; simp
      · rw [if_neg (by omega), if_neg h1]
/-- A function's results. -/
def resOne (P : Program) (env : Env) (st : St) : ResultVar → Option AV
  | .tmp t => some (env t)
  | .cell x t => match tiOf P t, env x with
    | some i, .box id off => match st id with
      | some (.cells _ cs) => if off + i.size ≤ cs.length ∧ (i.k.agg = false → i.size = 1) then some (if i.k.agg then .agg ((cs.drop off).take i.size) else cs.getD off .undef) else none
      | _ => none
    | _, _ => none
def resAll (P : Program) (env : Env) (st : St) : List ResultVar → Option (List AV)
  | [] => some []
  | r :: rs => match resOne P env st r, resAll P env st rs with
    | some v, some vs => some (v :: vs)
    | _, _ => none
def resAV (P : Program) (env : Env) (st : St) (rs : List ResultVar) : Option AV :=
  match resAll P env st rs with
  | some [v] => some v
  | some vs => some (.tup vs)
  | none => none
/-- What a body owes. -/
def retQ (P : Program) (fn : Func) (K : AV → St → Prop) : Exit → Env → St → Prop
  | .normal, env, st | .ret, env, st => ∃ r, resAV P env st fn.results.toList = some r ∧ ∃ r' st', AV.sub r' r ∧ St.le st' st ∧ K r' st'
  | _, _, _ => False
variable {B : Nat} {w0 w : World} {M : Mem} {a : Act}
def resSem (tmps : Array Value) : ResultVar → Sem Value
  | .tmp t => pure (tmps.getD t Go.undef)
  | .cell p t => do loadVar t (← asAddr (tmps.getD p Go.undef))
theorem results_eq (fn : Func) (tmps : Array Value) : results fn tmps = (do let vs ← fn.results.mapM (resSem tmps); pure (if h : vs.size = 1 then vs[0] else .tuple vs)) := by
  unfold results
  congr 1
theorem run_resOne (hI : Inv B w0 M st w) (hE : RepE M n env a) {r : ResultVar} {v : AV} (h : resOne P env st r = some v) :
    ∃ x, (resSem a.tmps r).run P w = .ok x w ∧ RepV M v x := by
  cases r with
  | tmp t => simp only [resOne, Option.some.injEq] at h; subst h; exact ⟨_, rfl, hE.slot t⟩
  | cell p t =>
    simp only [resOne] at h
    cases ht : tiOf P t with
    | none => simp [ht] at h
    | some i =>
      have hs := hE.slot p
      cases he : env p <;> simp only [ht, he, reduceCtorEq] at h
      rename_i id off
      rw [he] at hs
      have hz : a.tmps.getD p Go.undef = .pointer (some ⟨M.pos id, off, none⟩) := by generalize a.tmps.getD p Go.undef = z at hs; cases hs; rfl
      cases hst : st id with
      | none => simp [hst] at h
      | some o =>
        cases o <;> simp only [hst, reduceCtorEq] at h
        rename_i tt cs
        split at h
        · rename_i hc
          injection h with h
          subst h
          obtain ⟨_, arr, h1, h2, h3, h4⟩ := hI.obj id _ hst
          have hcell : ∀ j, j < i.size → w.cell? ((⟨M.pos id, off, none⟩ : Addr).add j) = some (arr.getD (off + j) Go.undef) := by
            intro j hj
            rw [addr_add, cell_of_row w _ _ _ _ _ h1]
            have : off + j < arr.size := by omega
            simp [this]
          refine ⟨_, by simp only [resSem, hz, asAddr, pure_bind]; exact run_loadVar' ht _ _ (fun h => by rw [hc.2 h]; omega) hcell, ?_⟩
          cases hag : i.k.agg with
          | true =>
            simp only [if_true]
            refine rep_agg_range i.size (by simp; omega) fun j => ?_
            rw [getD_drop]; exact h3 _
          | false => simpa using h3 off
        · cases h
theorem run_resAll (hI : Inv B w0 M st w) (hE : RepE M n env a) : ∀ (rs : List ResultVar) (vs : List AV), resAll P env st rs = some vs →
    ∃ xs : List Value, (rs.mapM (resSem a.tmps)).run P w = .ok xs w ∧ RepL M vs xs.toArray
  | [], vs, h => by
    simp only [resAll, Option.some.injEq] at h
    subst h
    exact ⟨[], by simp, rfl, fun j => by simpa using RepV.undef _⟩
  | r :: rs, vs, h => by
    simp only [resAll] at h
    cases h1 : resOne P env st r with
    | none => simp [h1] at h
    | some v =>
      cases h2 : resAll P env st rs with
      | none => simp [h1, h2] at h
      | some us =>
        simp only [h1, h2, Option.some.injEq] at h
        subst h
        obtain ⟨x, hx, hxr⟩ := run_resOne hI hE h1
        obtain ⟨xs, hxs, hxsr⟩ := run_resAll hI hE rs us h2
        refine ⟨x :: xs, ?_, by simpa using hxsr.1, fun j => ?_⟩
        · rw [List.mapM_cons]
          simp only [Sem.run_bind, hx, Result.andThen_ok, hxs, Sem.run_pure]
        · cases j with
          | zero => simpa using hxr
          | succ j => simpa using hxsr.2 j
theorem run_results (hI : Inv B w0 M st w) (hE : RepE M n env a) {fn : Func} {r : AV} (h : resAV P env st fn.results.toList = some r) : ∃ x, (results fn a.tmps).run P w = .ok x w ∧ RepV M r x := by
  unfold resAV at h
  cases h1 : resAll P env st fn.results.toList with
  | none => simp [h1] at h
  | some vs =>
    obtain ⟨xs, hx, hr⟩ := run_resAll hI hE _ _ h1
    have hrun : (results fn a.tmps).run P w = .ok (if h : xs.toArray.size = 1 then xs.toArray[0] else .tuple xs.toArray) w := by
      rw [results_eq, Array.mapM_eq_mapM_toList]
      simp only [Sem.run_bind, Sem.run_map, hx]
      rfl
    rw [hrun]
    match vs, h1, h, hr with
    | [], h1, h, hr =>
      simp only [h1, Option.some.injEq] at h
      subst h
      have : xs.toArray.size = 0 := hr.1
      exact ⟨_, by rw [dif_neg (by omega)], .tup _ _ hr.1 hr.2⟩
    | [v], h1, h, hr =>
      simp only [h1, Option.some.injEq] at h
      subst h
      have h1s : xs.toArray.size = 1 := hr.1
      refine ⟨_, by rw [dif_pos h1s], ?_⟩
      have := hr.2 0
      rw [Array.getD_eq_getD_getElem?, Array.getElem?_eq_getElem (by omega), Option.getD_some] at this
      simpa using this
    | v :: v' :: vs, h1, h, hr =>
      simp only [h1, Option.some.injEq] at h
      subst h
      have : xs.toArray.size = vs.length + 2 := hr.1
      exact ⟨_, by rw [dif_neg (by omega)], .tup _ _ hr.1 hr.2⟩
theorem leave_marks {R : Ending → World → Prop} {fn : Func} {tmps : Array Value} : ∀ (l : List Nat) {M : Mem} {w : World}, Inv B w0 M st w → M.ro = none → l.Nodup → (∀ D ∈ l, M.O D = some emptyBlock) →
    (∀ M' w', Inv B w0 M' st w' → M'.ro = none → M.up M' → (∀ k o, M.O k = some o → k ∉ l → M'.O k = some o) → ∃ v, (results fn tmps).run P w' = .ok v w' ∧ R (.returned v) w') →
    LeavesInM Fence.wide 0 P fn tmps R (l.map markOf) .returning w
  | [], M, w, hI, hro, _, _, h => h M w hI hro (Mem.le.refl M).toup fun _ _ e _ => e
  | D :: l, M, w, hI, hro, hn, hl, h => by
    rw [List.nodup_cons] at hn
    have hD := hl D (by simp)
    have ht := run_takeDeferred (P := P) (hI.oth D _ hD).1
    refine ⟨by simp, .inl ⟨D, _, rfl, ht, ?_⟩⟩
    refine leave_marks l (hI.turn hD (.deferred none) rfl (fun e => by rw [hro] at e; cases e)) hro hn.2 (fun E hE => ?_) fun M' w' h1 hr1 h2 h3 => ?_
    · show (if E = D then _ else M.O E) = _
      rw [if_neg (fun e : E = D => hn.1 (by rw [← e]; exact hE))]; exact hl E (by simp [hE])
    · refine h M' w' h1 hr1 ((up_act M M.ds M.ro _).trans h2) fun k o e hk => ?_
      simp only [List.mem_cons, not_or] at hk
      refine h3 k o ?_ hk.2
      show (if k = D then _ else M.O k) = _
      rw [if_neg hk.1]; exact e
theorem dcall_of_dwp {f : FuncId} {fn : Func} {c : Code} {args : List AV} {K : AV → St → Prop} (hf : P.funcs[f]? = some fn) (hb : fn.body = some c) (hn : (fn.name == "runtime.NumGoroutine") = false)
    (hl : args.length ≤ fn.ntmps) (h : dwp P fn.ntmps c (retQ P fn K) (Env.args args 0) st) : dcall P f args st K := by
  refine ⟨⟨fn, hf, hn, by rw [hb]; rfl⟩, fun B w0 M w vals hI hr => ?_⟩
  have hI1 := hI.act [] none hI.oth (fun _ _ _ => rfl) (fun _ e => by cases e)
  refine callsIn_wide.1 (callsIn_of_wp_marks (n := 0) hf hb trivial ?_ rfl)
  have hE : RepE (M.act [] none M.O) fn.ntmps (Env.args args 0) { tmps := vals ++ Array.replicate (fn.ntmps - vals.size) Go.undef, defers := [] } := by
    refine ⟨by simp [hr.1]; omega, rfl, fun d => RepV.mono' (up_act ..) ?_⟩
    rw [args_get, if_pos (Nat.zero_le _), Nat.sub_zero, agetD_append]
    by_cases hd : d < vals.size
    · rw [if_pos hd]; exact hr.2 d
    · rw [if_neg hd, List.getD_eq_getElem?_getD, List.getElem?_eq_none (by rw [← hr.1]; omega)]; exact .undef _
  refine wpIn_mono (h B w0 _ _ w hI1 hE) fun e a' w' hp => ?_
  have key : ∀ e, (e = .normal ∨ e = .ret) → Post B w0 (M.act [] none M.O) fn.ntmps (retQ P fn K e) a' w' → LeavesInM Fence.wide 0 P fn a'.tmps (fun e w' => ∃ x M' v st', e = .returned x ∧ M.le M' ∧ Inv B w0 M' st' w' ∧ RepV M' v x ∧ K v st') a'.defers .returning w' := by
    rintro e he ⟨M', env', st', h1, h2, h3, h4⟩
    have h4' : ∃ r, resAV P env' st' fn.results.toList = some r ∧ ∃ r' st2, AV.sub r' r ∧ St.le st2 st' ∧ K r' st2 := by
      rcases he with rfl | rfl <;> exact h4
    obtain ⟨r, hr1, r', st2, hs, hl, hk⟩ := h4'
    obtain ⟨l, d1, d2, d3⟩ := h1.ds
    have hds : a'.defers = l.map markOf := by rw [h3.defers, d1]; simp [Mem.act]
    rw [hds]
    refine leave_marks l h2 h1.ro d2 (fun D hD => (d3 D hD).1) fun M2 w2 k1 kr k2 k3 => ?_
    have hkO : ∀ k o, M.O k = some o → M2.O k = some o := fun k o e => k3 k o (h1.O k o e) fun hk => by
      have := (d3 k hk).2
      rw [show (M.act [] none M.O).O k = M.O k from rfl, e] at this; cases this
    have hE2 : RepE (M2.act a'.defers M2.ro M2.O) fn.ntmps env' a' := ⟨h3.size, rfl, fun d => (h3.slot d).mono' (k2.trans (up_act ..))⟩
    obtain ⟨x, hx, hxr⟩ := run_results (k1.act a'.defers M2.ro k1.oth (fun _ _ _ => rfl) k1.rnd) hE2 hr1
    refine ⟨x, hx, x, M2.act M.ds M.ro M2.O, r', st2, rfl, act_le (ds := []) (ro := none) (O := M.O) (h1.toup.trans k2) hkO rfl rfl, (k1.weaken hl).act _ _ k1.oth (fun _ _ _ => rfl) (fun l e => let ⟨r, hr⟩ := hI.rnd l e; ⟨r, hkO _ _ hr⟩), (hs _ x hxr).mono' ((act_up M2 _ _ _).trans (up_act ..)), hk⟩
  cases e with
  | normal => exact key _ (.inl rfl) hp
  | ret => exact key _ (.inr rfl) hp
  | _ => obtain ⟨M', env', st', h1, h2, h3, h4⟩ := hp; exact h4.elim
/-- A pure function's contract out of its body. -/
theorem pure_of_dwp {f : FuncId} {fn : Func} {c : Code} {args : List AV} {r : AV} (hf : P.funcs[f]? = some fn) (hb : fn.body = some c) (hn : (fn.name == "runtime.NumGoroutine") = false)
    (hl : args.length ≤ fn.ntmps) (h : ∀ st K, K r st → dwp P fn.ntmps c (retQ P fn K) (Env.args args 0) st) : PureC P f args r :=
  fun st K hK => dcall_of_dwp hf hb hn hl (h st K hK)
end
end Go.Sh
