/- Shadow logic, part N: two operations in the other order. -/
import Derived.Test.YtdhmbpipjdapfaaGreatShM
namespace Go.Sh
open Go.RowKit
section
variable {P : Program}

def rngApart (a n b m : Nat) : Prop := a + n ≤ b ∨ b + m ≤ a
def swappable : ORes → ORes → Prop
  | .app .., .app .. => False
  | .new .., .app .. => False
  | .store i a cs, .store j b ds => i ≠ j ∨ rngApart a cs.length b ds.length
  | .store i a cs, .load j b n _ => i ≠ j ∨ rngApart a cs.length b n
  | .load i a n _, .store j b ds => i ≠ j ∨ rngApart a n b ds.length
  | _, _ => True

theorem get_spliceL (vs : List AV) : ∀ (l : List AV) (k q : Nat), (spliceL l k vs)[q]? = if k ≤ q ∧ q < k + vs.length ∧ q < l.length then vs[q - k]? else l[q]? := by
  induction vs with
  | nil => intro ar k q; simp [spliceL]; omega
  | cons u vs ih =>
    intro ar k q
    simp only [spliceL, ih, List.length_set, List.length_cons]
    by_cases c1 : k + 1 ≤ q ∧ q < k + 1 + vs.length ∧ q < ar.length
    · rw [if_pos c1, if_pos (by omega)]
      rw [show q - k = (q - (k + 1)) + 1 by omega, List.getElem?_cons_succ]
    · rw [if_neg c1, List.getElem?_set]
      by_cases c2 : k = q
      · subst c2
        by_cases c3 : k < ar.length
        · rw [if_pos rfl, if_pos c3, if_pos (by omega)]; simp
        · rw [if_pos rfl, if_neg c3, if_neg (by omega)]; rw [List.getElem?_eq_none (by omega)]
      · rw [if_neg c2, if_neg (by omega)]
theorem spliceL_comm {l cs ds : List AV} {a b : Nat} (h : rngApart a cs.length b ds.length) : spliceL (spliceL l a cs) b ds = spliceL (spliceL l b ds) a cs := by
  apply List.ext_getElem?
  intro q
  simp only [get_spliceL, length_spliceL]
  unfold rngApart at h
  by_cases c1 : b ≤ q ∧ q < b + ds.length ∧ q < l.length <;> by_cases c2 : a ≤ q ∧ q < a + cs.length ∧ q < l.length
  · omega
  · rw [if_pos c1, if_neg c2, if_pos c1]
  · rw [if_neg c1, if_pos c2, if_pos c2]
  · rw [if_neg c1, if_neg c2, if_neg c2, if_neg c1]
theorem get_apart {l cs : List AV} {a b n : Nat} (h : rngApart a cs.length b n) (ag : Bool) (hn : ag = false → 0 < n) :
    (if ag then AV.agg (((spliceL l a cs).drop b).take n) else (spliceL l a cs).getD b .undef) = (if ag then AV.agg ((l.drop b).take n) else l.getD b .undef) := by
  unfold rngApart at h
  cases ag with
  | true =>
    simp only [if_true]
    congr 1
    apply List.ext_getElem?
    intro q
    simp only [List.getElem?_take, List.getElem?_drop, get_spliceL]
    split
    · rw [if_neg (by omega)]
    · rfl
  | false =>
    have := hn rfl
    simp only [Bool.false_eq_true, if_false, List.getD_eq_getElem?_getD, get_spliceL]
    rw [if_neg (by omega)]

theorem upd_same (st : St) (i : Nat) (x y : AObj) : (st.upd i x).upd i y = st.upd i y := by
  funext k
  simp only [St.upd]
  split <;> rfl
theorem Owns.fresh {st0 st : St} {e sz n : Nat} {o : Own} (h : Owns st0 e sz n o st) (hf : Fresh st) : Fresh st0 := by
  cases o with
  | no => exact h.elim
  | clip => simp only [Owns] at h; subst h; exact hf
  | op id =>
    obtain ⟨h1, h2⟩ := h
    subst h2
    obtain ⟨N, hN⟩ := hf
    refine ⟨N, fun i hi => ?_⟩
    have := hN i hi
    simp only [St.upd] at this
    split at this
    · cases this
    · exact this
/-- What isn't the owned row's may be laid beside it. -/
theorem Owns.upd {st0 st : St} {e sz n : Nat} {o : Own} (h : Owns st0 e sz n o st) {i : Nat} (hi : ∀ id, o = .op id → i ≠ id) (x : AObj) : Owns (st0.upd i x) e sz n o (st.upd i x) := by
  cases o with
  | no => exact h.elim
  | clip => simp only [Owns] at h ⊢; rw [h]
  | op id =>
    obtain ⟨h1, h2⟩ := h
    have hne := hi id rfl
    exact ⟨by rw [upd_ne _ (Ne.symm hne)]; exact h1, by rw [h2, upd_upd _ (Ne.symm hne)]⟩
theorem Owns.get {st0 st : St} {e sz n : Nat} {o : Own} (h : Owns st0 e sz n o st) {i : Nat} {t : TypeId} {cs : List AV} (hi : st i = some (.cells t cs)) : st0 i = some (.cells t cs) ∧ ∀ id, o = .op id → i ≠ id := by
  cases o with
  | no => exact h.elim
  | clip => simp only [Owns] at h; rw [← h]; exact ⟨hi, fun _ e => by cases e⟩
  | op id =>
    obtain ⟨h1, h2⟩ := h
    subst h2
    by_cases e1 : i = id
    · subst e1; rw [upd_eq] at hi; cases hi
    · rw [upd_ne _ e1] at hi; exact ⟨hi, fun id' e => by injection e with e; rw [← e]; exact e1⟩
theorem Owns.none {st0 st : St} {e sz n : Nat} {o : Own} (h : Owns st0 e sz n o st) {i : Nat} (hi : st i = none) : st0 i = .none ∧ ∀ id, o = .op id → i ≠ id := by
  cases o with
  | no => exact h.elim
  | clip => simp only [Owns] at h; rw [← h]; exact ⟨hi, fun _ e => by cases e⟩
  | op id =>
    obtain ⟨h1, h2⟩ := h
    subst h2
    by_cases e1 : i = id
    · subst e1; rw [upd_eq] at hi; cases hi
    · rw [upd_ne _ e1] at hi; exact ⟨hi, fun id' e => by injection e with e; rw [← e]; exact e1⟩
theorem Owns.get' {st0 st : St} {e sz n : Nat} {o : Own} (h : Owns st0 e sz n o st) {i : Nat} {x : AObj} (hi : st0 i = some x) : st i = some x ∧ ∀ id, o = .op id → i ≠ id := owns_sub h i x hi

theorem load_iff {rv : AV} {id off n : Nat} {ag : Bool} {st : St} {K : AV → St → Prop} : resKP P rv (.load id off n ag) st K ↔ ∃ t cs, st id = some (.cells t cs) ∧ off + n ≤ cs.length ∧ K (if ag then .agg ((cs.drop off).take n) else cs.getD off .undef) st := by
  refine ⟨fun h => resK_load (P := P) h, fun ⟨t, cs, h1, h2, h3⟩ => ?_⟩
  show resK P (.load id off n ag) st K
  unfold resK; simp only [h1]; exact ⟨h2, h3⟩
theorem store_iff {rv : AV} {id off : Nat} {vs : List AV} {st : St} {K : AV → St → Prop} : resKP P rv (.store id off vs) st K ↔ ∃ t cs, st id = some (.cells t cs) ∧ off + vs.length ≤ cs.length ∧ K .undef (st.upd id (.cells t (spliceL cs off vs))) := by
  refine ⟨fun h => resK_store (P := P) h, fun ⟨t, cs, h1, h2, h3⟩ => ?_⟩
  show resK P (.store id off vs) st K
  unfold resK; simp only [h1]; exact ⟨h2, h3⟩

def oldR : ORes → Bool
  | .val _ | .load _ _ _ _ | .store _ _ _ | .new _ _ | .lit _ _ | .app _ _ _ _ _ _ | .call _ _ | .yield _ _ | .stuck => true
  | _ => false
theorem resKP_swap0 {u v : AV} {r1 r2 : ORes} {st : St} {K : AV → AV → St → Prop} (hs : swappable r1 r2) (hld : ∀ i a n, r1 = .load i a n false ∨ r2 = .load i a n false → 0 < n) (hf : Fresh st) (ho : oldR r1 = true ∧ oldR r2 = true)
    (h : resKP P u r1 st fun v1 s1 => resKP P v r2 s1 fun v2 s2 => K v1 v2 s2) : resKP P v r2 st fun v2 s1 => resKP P u r1 s1 fun v1 s2 => K v1 v2 s2 := by
  cases r2 with
  | val x => exact h
  | lit sz xs => exact h
  | call f args =>
    refine ⟨?_, resKP_mono (fun _ _ h => h.2) h⟩
    -- the call's contract
    cases r1 with
    | val x => exact h.1
    | lit => exact h.1
    | call => exact h.2.1
    | stuck => exact h.elim
    | yield => exact h.elim
    | load => obtain ⟨t, cs, _, _, h3⟩ := (load_iff (P := P) (rv := u)).1 h; exact h3.1
    | store => obtain ⟨t, cs, _, _, h3⟩ := (store_iff (P := P) (rv := u)).1 h; exact h3.1
    | new t cs => obtain ⟨N, hN⟩ := hf; exact (h N (hN N (Nat.le_refl _))).1
    | app e sz b xs ys o =>
      obtain ⟨st0, h1, h2⟩ := h
      obtain ⟨N, hN⟩ := h1.fresh hf
      exact (h2 (.op N) _ ⟨hN N (Nat.le_refl _), rfl⟩).1
    | _ => exact absurd ho.1 Bool.false_ne_true
  | stuck =>
    cases r1 with
    | val x => exact h
    | lit => exact h
    | call => exact h.2
    | stuck => exact h
    | yield => exact h.elim
    | load => obtain ⟨t, cs, _, _, h3⟩ := (load_iff (P := P) (rv := u)).1 h; exact h3
    | store => obtain ⟨t, cs, _, _, h3⟩ := (store_iff (P := P) (rv := u)).1 h; exact h3
    | new t cs => obtain ⟨N, hN⟩ := hf; exact h N (hN N (Nat.le_refl _))
    | app e sz b xs ys o =>
      obtain ⟨st0, h1, h2⟩ := h
      obtain ⟨N, hN⟩ := h1.fresh hf
      exact h2 (.op N) _ ⟨hN N (Nat.le_refl _), rfl⟩
    | _ => exact absurd ho.1 Bool.false_ne_true
  | yield =>
    cases r1 with
    | val x => exact h.elim
    | lit => exact h
    | call => exact h.2
    | stuck => exact h.elim
    | yield => exact h.elim
    | load => obtain ⟨t, cs, _, _, h3⟩ := (load_iff (P := P) (rv := u)).1 h; exact h3.elim
    | store => obtain ⟨t, cs, _, _, h3⟩ := (store_iff (P := P) (rv := u)).1 h; exact h3.elim
    | new t cs => obtain ⟨N, hN⟩ := hf; exact h N (hN N (Nat.le_refl _))
    | app e sz b xs ys o =>
      obtain ⟨st0, h1, h2⟩ := h
      obtain ⟨N, hN⟩ := h1.fresh hf
      exact h2 (.op N) _ ⟨hN N (Nat.le_refl _), rfl⟩
    | _ => exact absurd ho.1 Bool.false_ne_true
  | load j b m ag =>
    rw [load_iff]
    cases r1 with
    | val x => exact (load_iff (P := P) (rv := v)).1 h
    | lit => exact (load_iff (P := P) (rv := v)).1 h
    | call => obtain ⟨t, cs, h1, h2, h3⟩ := (load_iff (P := P) (rv := v)).1 h.2; exact ⟨t, cs, h1, h2, h.1, h3⟩
    | stuck => exact h.elim
    | yield => exact h.elim
    | load i a n ag' =>
      obtain ⟨t, cs, h1, h2, h3⟩ := (load_iff (P := P) (rv := u)).1 h
      obtain ⟨t', cs', h1', h2', h3'⟩ := (load_iff (P := P) (rv := v)).1 h3
      exact ⟨t', cs', h1', h2', load_iff.2 ⟨t, cs, h1, h2, h3'⟩⟩
    | store i a cs0 =>
      obtain ⟨t, cs, h1, h2, h3⟩ := (store_iff (P := P) (rv := u)).1 h
      obtain ⟨t', cs', h1', h2', h3'⟩ := (load_iff (P := P) (rv := v)).1 h3
      by_cases hij : j = i
      · subst hij
        rw [upd_eq] at h1'
        injection h1' with h1'
        injection h1' with e1 e2
        subst e1 e2
        rw [length_spliceL] at h2'
        have hap : rngApart a cs0.length b m := hs.resolve_left (fun e => e rfl)
        rw [get_apart hap ag (fun e => by subst e; exact hld j b m (.inr rfl))] at h3'
        exact ⟨t, cs, h1, h2', store_iff.2 ⟨t, cs, h1, h2, h3'⟩⟩
      · rw [upd_ne _ hij] at h1'
        exact ⟨t', cs', h1', h2', store_iff.2 ⟨t, cs, h1, h2, h3'⟩⟩
    | new t0 cs0 =>
      obtain ⟨N, hN⟩ := hf
      obtain ⟨t', cs', h1', h2', h3'⟩ := (load_iff (P := P) (rv := v)).1 (h N (hN N (Nat.le_refl _)))
      by_cases hjN : j = N
      · -- the very number: another one tells
        obtain ⟨t2, cs2, g1, g2, g3⟩ := (load_iff (P := P) (rv := v)).1 (h (N + 1) (hN _ (by omega)))
        rw [upd_ne _ (by omega), hjN, hN N (Nat.le_refl _)] at g1
        cases g1
      · rw [upd_ne _ hjN] at h1'
        refine ⟨t', cs', h1', h2', fun id hid => ?_⟩
        obtain ⟨t2, cs2, g1, g2, g3⟩ := (load_iff (P := P) (rv := v)).1 (h id hid)
        have hne : j ≠ id := fun e => by rw [e, hid] at h1'; cases h1'
        rw [upd_ne _ hne, h1'] at g1
        injection g1 with g1
        injection g1 with e1 e2
        subst e1 e2
        exact g3
    | app e sz bb xs ys o =>
      obtain ⟨st0, h1, h2⟩ := h
      obtain ⟨N, hN⟩ := h1.fresh hf
      have key : ∀ o' st', Owns st0 e sz (xs.length + ys.length) o' st' → ∃ t cs, st0 j = some (.cells t cs) ∧ b + m ≤ cs.length ∧ K (.list sz (xs ++ ys) o') (if ag then .agg ((cs.drop b).take m) else cs.getD b .undef) st' := by
        intro o' st' ho
        obtain ⟨t', cs', h1', h2', h3'⟩ := (load_iff (P := P) (rv := v)).1 (h2 o' st' ho)
        exact ⟨t', cs', (ho.get h1').1, h2', h3'⟩
      obtain ⟨t, cs, k1, k2, k3⟩ := key (.op N) _ ⟨hN N (Nat.le_refl _), rfl⟩
      refine ⟨t, cs, (h1.get' k1).1, k2, st0, h1, fun o' st' ho => ?_⟩
      obtain ⟨t', cs', h1', h2', h3'⟩ := key o' st' ho
      rw [k1] at h1'
      injection h1' with h1'
      injection h1' with e1 e2
      subst e1 e2
      exact h3'
    | _ => exact absurd ho.1 Bool.false_ne_true
  | store j b ds =>
    rw [store_iff]
    cases r1 with
    | val x => exact (store_iff (P := P) (rv := v)).1 h
    | lit => exact (store_iff (P := P) (rv := v)).1 h
    | call => obtain ⟨t, cs, h1, h2, h3⟩ := (store_iff (P := P) (rv := v)).1 h.2; exact ⟨t, cs, h1, h2, h.1, h3⟩
    | stuck => exact h.elim
    | yield => exact h.elim
    | load i a n ag =>
      obtain ⟨t, cs, h1, h2, h3⟩ := (load_iff (P := P) (rv := u)).1 h
      obtain ⟨t', cs', h1', h2', h3'⟩ := (store_iff (P := P) (rv := v)).1 h3
      refine ⟨t', cs', h1', h2', ?_⟩
      by_cases hij : i = j
      · subst hij
        rw [h1] at h1'
        injection h1' with h1'
        injection h1' with e1 e2
        subst e1 e2
        have hap : rngApart a n b ds.length := hs.resolve_left (fun e => e rfl)
        have hap' : rngApart b ds.length a n := by unfold rngApart at *; omega
        refine load_iff.2 ⟨t, _, upd_eq _ _ _, by rw [length_spliceL]; exact h2, ?_⟩
        rw [get_apart hap' ag (fun e => by subst e; exact hld i a n (.inl rfl))]
        exact h3'
      · exact load_iff.2 ⟨t, cs, by rw [upd_ne _ hij]; exact h1, h2, h3'⟩
    | store i a cs0 =>
      obtain ⟨t, cs, h1, h2, h3⟩ := (store_iff (P := P) (rv := u)).1 h
      obtain ⟨t', cs', h1', h2', h3'⟩ := (store_iff (P := P) (rv := v)).1 h3
      by_cases hij : j = i
      · subst hij
        rw [upd_eq] at h1'
        injection h1' with h1'
        injection h1' with e1 e2
        subst e1 e2
        rw [length_spliceL] at h2'
        have hap : rngApart a cs0.length b ds.length := hs.resolve_left (fun e => e rfl)
        refine ⟨t, cs, h1, h2', store_iff.2 ⟨t, _, upd_eq _ _ _, by rw [length_spliceL]; exact h2, ?_⟩⟩
        rw [upd_same] at h3' ⊢
        rw [← spliceL_comm hap]; exact h3'
      · rw [upd_ne _ hij] at h1'
        refine ⟨t', cs', h1', h2', store_iff.2 ⟨t, cs, by rw [upd_ne _ (Ne.symm hij)]; exact h1, h2, ?_⟩⟩
        rw [upd_upd _ hij]; exact h3'
    | new t0 cs0 =>
      obtain ⟨N, hN⟩ := hf
      obtain ⟨t', cs', h1', h2', h3'⟩ := (store_iff (P := P) (rv := v)).1 (h N (hN N (Nat.le_refl _)))
      by_cases hjN : j = N
      · obtain ⟨t2, cs2, g1, g2, g3⟩ := (store_iff (P := P) (rv := v)).1 (h (N + 1) (hN _ (by omega)))
        rw [upd_ne _ (by omega), hjN, hN N (Nat.le_refl _)] at g1
        cases g1
      · rw [upd_ne _ hjN] at h1'
        refine ⟨t', cs', h1', h2', fun id hid => ?_⟩
        have hne : j ≠ id := fun e => by
          subst e
          rw [upd_eq] at hid; cases hid
        rw [upd_ne _ (Ne.symm hne)] at hid
        obtain ⟨t2, cs2, g1, g2, g3⟩ := (store_iff (P := P) (rv := v)).1 (h id hid)
        rw [upd_ne _ hne, h1'] at g1
        injection g1 with g1
        injection g1 with e1 e2
        subst e1 e2
        rw [upd_upd _ hne]; exact g3
    | app e sz bb xs ys o =>
      obtain ⟨st0, h1, h2⟩ := h
      obtain ⟨N, hN⟩ := h1.fresh hf
      have key : ∀ o' st', Owns st0 e sz (xs.length + ys.length) o' st' → ∃ t cs, st0 j = some (.cells t cs) ∧ b + ds.length ≤ cs.length ∧ (∀ id, o' = .op id → j ≠ id) ∧ K (.list sz (xs ++ ys) o') .undef (st'.upd j (.cells t (spliceL cs b ds))) := by
        intro o' st' ho
        obtain ⟨t', cs', h1', h2', h3'⟩ := (store_iff (P := P) (rv := v)).1 (h2 o' st' ho)
        exact ⟨t', cs', (ho.get h1').1, h2', (ho.get h1').2, h3'⟩
      obtain ⟨t, cs, k1, k2, k3, k4⟩ := key (.op N) _ ⟨hN N (Nat.le_refl _), rfl⟩
      refine ⟨t, cs, (h1.get' k1).1, k2, st0.upd j (.cells t (spliceL cs b ds)), h1.upd (h1.get' k1).2 _, fun o' st' ho => ?_⟩
      -- back to a state without the store
      have hback : ∃ st'', Owns st0 e sz (xs.length + ys.length) o' st'' ∧ st' = st''.upd j (.cells t (spliceL cs b ds)) := by
        cases o' with
        | no => exact ho.elim
        | clip => exact ⟨st0, rfl, ho⟩
        | op id =>
          obtain ⟨o1, o2⟩ := ho
          have hne : j ≠ id := fun e => by subst e; rw [upd_eq] at o1; cases o1
          rw [upd_ne _ (Ne.symm hne)] at o1
          exact ⟨_, ⟨o1, rfl⟩, by rw [o2, upd_upd _ hne]⟩
      obtain ⟨st'', ho'', rfl⟩ := hback
      obtain ⟨t', cs', h1', h2', h3', h4'⟩ := key o' st'' ho''
      rw [k1] at h1'
      injection h1' with h1'
      injection h1' with e1 e2
      subst e1 e2
      exact h4'
    | _ => exact absurd ho.1 Bool.false_ne_true
  | new t2 cs2 =>
    cases r1 with
    | val x => exact h
    | lit => exact h
    | call => exact fun id hid => ⟨h.1, h.2 id hid⟩
    | stuck => exact h.elim
    | yield => exact h.elim
    | load i a n ag =>
      obtain ⟨t, cs, h1, h2, h3⟩ := (load_iff (P := P) (rv := u)).1 h
      intro id hid
      have hne : i ≠ id := fun e => by rw [e, hid] at h1; cases h1
      exact load_iff.2 ⟨t, cs, by rw [upd_ne _ hne]; exact h1, h2, h3 id hid⟩
    | store i a cs0 =>
      obtain ⟨t, cs, h1, h2, h3⟩ := (store_iff (P := P) (rv := u)).1 h
      intro id hid
      have hne : i ≠ id := fun e => by rw [e, hid] at h1; cases h1
      refine store_iff.2 ⟨t, cs, by rw [upd_ne _ hne]; exact h1, h2, ?_⟩
      rw [← upd_upd _ hne]
      exact h3 id (by rw [upd_ne _ (Ne.symm hne)]; exact hid)
    | new t1 cs1 =>
      intro id2 h2 id1 h1
      have hne : id1 ≠ id2 := fun e => by rw [e, upd_eq] at h1; cases h1
      rw [upd_ne _ hne] at h1
      rw [← upd_upd _ hne]
      exact h id1 h1 id2 (by rw [upd_ne _ (Ne.symm hne)]; exact h2)
    | app e sz bb xs ys o =>
      obtain ⟨st0, h1, h2⟩ := h
      intro id hid
      have hn := h1.none hid
      refine ⟨st0.upd id (.cells t2 cs2), h1.upd hn.2 _, fun o' st' ho => ?_⟩
      have hback : ∃ st'', Owns st0 e sz (xs.length + ys.length) o' st'' ∧ st'' id = none ∧ st' = st''.upd id (.cells t2 cs2) := by
        cases o' with
        | no => exact ho.elim
        | clip => exact ⟨st0, rfl, hn.1, ho⟩
        | op id' =>
          obtain ⟨o1, o2⟩ := ho
          have hne : id ≠ id' := fun e => by subst e; rw [upd_eq] at o1; cases o1
          rw [upd_ne _ (Ne.symm hne)] at o1
          exact ⟨_, ⟨o1, rfl⟩, by rw [upd_ne _ hne]; exact hn.1, by rw [o2, upd_upd _ hne]⟩
      obtain ⟨st'', ho'', hid'', rfl⟩ := hback
      exact h2 o' st'' ho'' id hid''
    | _ => exact absurd ho.1 Bool.false_ne_true
  | app e sz bb xs ys o =>
    cases r1 with
    | val x => exact h
    | lit => exact h
    | call => obtain ⟨hp, st0, h1, h2⟩ := h; exact ⟨st0, h1, fun o' st' ho => ⟨hp, h2 o' st' ho⟩⟩
    | yield => exact h.elim
    | stuck => exact h.elim
    | app => exact hs.elim
    | load i a n ag =>
      obtain ⟨t, cs, h1, h2, st0, h3, h4⟩ := (load_iff (P := P) (rv := u)).1 h
      refine ⟨st0, h3, fun o' st' ho => load_iff.2 ⟨t, cs, (ho.get' (h3.get h1).1).1, h2, h4 o' st' ho⟩⟩
    | store i a cs0 =>
      obtain ⟨t, cs, h1, h2, st0, h3, h4⟩ := (store_iff (P := P) (rv := u)).1 h
      have hg := h3.get (upd_eq _ _ _)
      -- the state beside the row, without the store
      have hst : ∃ st1, Owns st1 e sz xs.length o st ∧ st0 = st1.upd i (.cells t (spliceL cs a cs0)) := by
        cases o with
        | no => exact h3.elim
        | clip => exact ⟨st, rfl, (by simp only [Owns] at h3; exact h3.symm)⟩
        | op id =>
          obtain ⟨o1, o2⟩ := h3
          have hne : i ≠ id := hg.2 id rfl
          refine ⟨fun k => if k = i then st i else st0 k, ⟨by simp [Ne.symm hne, o1], ?_⟩, ?_⟩
          · funext k
            have := congrFun o2 k
            simp only [St.upd] at this ⊢
            by_cases c1 : k = i
            · subst c1; simp [hne]
            · simp only [c1, if_false] at this ⊢; exact this
          · funext k
            simp only [St.upd]
            by_cases c1 : k = i
            · subst c1; simp [hg.1]
            · simp [c1]
      obtain ⟨st1, hs1, rfl⟩ := hst
      refine ⟨st1, hs1, fun o' st' ho => ?_⟩
      have h1' := (ho.get' (hs1.get h1).1)
      exact store_iff.2 ⟨t, cs, h1'.1, h2, h4 o' _ (ho.upd h1'.2 _)⟩
    | new t1 cs1 => exact hs.elim
    | _ => exact absurd ho.1 Bool.false_ne_true
  | _ => exact absurd ho.2 Bool.false_ne_true

theorem resKP_const {rv : AV} {r : ORes} {st : St} {A : Prop} (hf : Fresh st) (h : resKP P rv r st fun _ _ => A) : A := by
  cases r with
  | val x => exact h
  | lit => exact h
  | call => exact h.2
  | stuck => exact h.elim
  | load => obtain ⟨t, cs, _, _, h3⟩ := (load_iff (P := P) (rv := rv)).1 h; exact h3
  | store => obtain ⟨t, cs, _, _, h3⟩ := (store_iff (P := P) (rv := rv)).1 h; exact h3
  | new t cs => obtain ⟨N, hN⟩ := hf; exact h N (hN N (Nat.le_refl _))
  | app e sz b xs ys o =>
    obtain ⟨st0, h1, h2⟩ := h
    obtain ⟨N, hN⟩ := h1.fresh hf
    exact h2 (.op N) _ ⟨hN N (Nat.le_refl _), rfl⟩
  | mget => obtain ⟨_, _, h2⟩ := (obs_iff (P := P) (rv := rv) rfl).1 h; exact h2
  | mlen => obtain ⟨_, _, h2⟩ := (obs_iff (P := P) (rv := rv) rfl).1 h; exact h2
  | _ => exact h.elim

/-- Maps stand as they stood. -/
def SameMaps (st s : St) : Prop := ∀ id es c, s id = some (.map es c) ↔ st id = some (.map es c)
theorem sameMaps_upd {st : St} {i : Nat} {t : TypeId} {cs : List AV} (h : ∀ es c, st i ≠ some (.map es c)) : SameMaps st (st.upd i (.cells t cs)) := by
  intro id es c
  by_cases e : id = i
  · subst e; rw [upd_eq]; simp [h]
  · rw [upd_ne _ e]
theorem owns_maps {st0 st : St} {e sz n : Nat} {o : Own} (h : Owns st0 e sz n o st) : SameMaps st0 st := by
  cases o with
  | no => exact h.elim
  | clip => simp only [Owns] at h; rw [h]; exact fun _ _ _ => Iff.rfl
  | op id =>
    obtain ⟨h1, h2⟩ := h
    intro i es c
    rw [h2]
    by_cases e : i = id
    · subst e; rw [upd_eq, h1]; simp
    · rw [upd_ne _ e]
theorem resKP_maps {u : AV} {r : ORes} {st : St} {K : AV → St → Prop} (h : resKP P u r st K) : resKP P u r st fun v s => K v s ∧ SameMaps st s := by
  have rf : SameMaps st st := fun _ _ _ => Iff.rfl
  cases r with
  | val x => exact ⟨h, rf⟩
  | lit => exact ⟨h, rf⟩
  | call => exact ⟨h.1, h.2, rf⟩
  | stuck => exact h.elim
  | load => obtain ⟨t, cs, h1, h2, h3⟩ := (load_iff (P := P) (rv := u)).1 h; exact load_iff.2 ⟨t, cs, h1, h2, h3, rf⟩
  | store i a cs0 => obtain ⟨t, cs, h1, h2, h3⟩ := (store_iff (P := P) (rv := u)).1 h; exact store_iff.2 ⟨t, cs, h1, h2, h3, sameMaps_upd (by rw [h1]; simp)⟩
  | new t cs => exact fun id hid => ⟨h id hid, sameMaps_upd (by rw [hid]; simp)⟩
  | app e sz b xs ys o =>
    obtain ⟨st0, h1, h2⟩ := h
    exact ⟨st0, h1, fun o' st' ho => ⟨h2 o' st' ho, fun i es c => (owns_maps ho i es c).trans (owns_maps h1 i es c).symm⟩⟩
  | mget => obtain ⟨v, h1, h2⟩ := (obs_iff (P := P) (rv := u) rfl).1 h; exact (obs_iff rfl).2 ⟨v, h1, h2, rf⟩
  | mlen => obtain ⟨v, h1, h2⟩ := (obs_iff (P := P) (rv := u) rfl).1 h; exact (obs_iff rfl).2 ⟨v, h1, h2, rf⟩
  | _ => exact h.elim
theorem mapAt_same {st s : St} (h : SameMaps st s) (id : Nat) : mapAt (s id) = mapAt (st id) := by
  by_cases e : ∃ es c, st id = some (.map es c)
  · obtain ⟨es, c, e⟩ := e; rw [(h id es c).2 e, e]
  · have e1 : ∀ (o : Option AObj), (∀ es c, o ≠ some (.map es c)) → mapAt o = none := by
      intro o ho
      unfold mapAt
      split
      · exact absurd rfl (ho _ _)
      · rfl
    rw [e1 (st id) (fun es c e' => e ⟨es, c, e'⟩), e1 (s id) (fun es c e' => e ⟨es, c, (h id es c).1 e'⟩)]
theorem obsV_same {r : ORes} {st s : St} (h : SameMaps st s) : obsV r s = obsV r st := by
  cases r <;> simp only [obsV, mapAt_same h]
def deadR : ORes → Bool
  | .appr _ _ _ _ _ _ _ _ | .mnew | .mset _ _ _ _ | .mdel _ _ _ | .mrange _ | .mnext _ | .mentry _ => true
  | _ => false
theorem dead_false {u : AV} {r : ORes} {st : St} {K : AV → St → Prop} (hd : deadR r = true) (h : resKP P u r st K) : False := by
  cases r <;> first | exact h | (cases hd; done)
theorem kinds (r : ORes) : oldR r = true ∨ isObs r = true ∨ deadR r = true := by
  cases r <;> first | exact .inl rfl | exact .inr (.inl rfl) | exact .inr (.inr rfl)
theorem resKP_swap {u v : AV} {r1 r2 : ORes} {st : St} {K : AV → AV → St → Prop} (hs : swappable r1 r2) (hld : ∀ i a n, r1 = .load i a n false ∨ r2 = .load i a n false → 0 < n) (hf : Fresh st)
    (h : resKP P u r1 st fun v1 s1 => resKP P v r2 s1 fun v2 s2 => K v1 v2 s2) : resKP P v r2 st fun v2 s1 => resKP P u r1 s1 fun v1 s2 => K v1 v2 s2 := by
  rcases kinds r1 with o1 | o1 | o1
  · rcases kinds r2 with o2 | o2 | o2
    · exact resKP_swap0 hs hld hf ⟨o1, o2⟩ h
    · have h' := resKP_mono (K' := fun v1 s1 => ∃ x, obsV r2 st = some x ∧ K v1 x s1) (fun v1 s1 hh => by
        obtain ⟨hh, hm⟩ := hh
        obtain ⟨x, k1, k2⟩ := (obs_iff o2).1 hh
        exact ⟨x, by rw [← obsV_same hm]; exact k1, k2⟩) (resKP_maps h)
      refine (obs_iff o2).2 ?_
      cases hx : obsV r2 st with
      | none => exact (resKP_const hf (resKP_mono (K' := fun _ _ => False) (fun v1 s1 ⟨x, k1, _⟩ => by rw [hx] at k1; cases k1) h')).elim
      | some x => exact ⟨x, rfl, resKP_mono (fun v1 s1 ⟨y, k1, k2⟩ => by rw [hx] at k1; injection k1 with k1; subst k1; exact k2) h'⟩
    · exact (resKP_const hf (resKP_mono (K' := fun _ _ => False) (fun v1 s1 hh => dead_false o2 hh) h)).elim
  · obtain ⟨x, k1, k2⟩ := (obs_iff o1).1 h
    exact resKP_mono (fun v2 s2 ⟨hk, hm⟩ => (obs_iff o1).2 ⟨x, by rw [obsV_same hm]; exact k1, hk⟩) (resKP_maps k2)
  · exact (dead_false o1 h).elim
end
end Go.Sh
