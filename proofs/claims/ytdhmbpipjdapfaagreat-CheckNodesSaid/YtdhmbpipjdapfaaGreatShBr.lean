import Derived.Test.YtdhmbpipjdapfaaGreatShBq
set_option linter.unusedSimpArgs false
set_option linter.unusedVariables false

namespace Go.Proofs
open Go Go.Sh
set_option maxRecDepth 20000
theorem idxTake_hit {α : Type} {h : List α} {p : α → Bool} {n i : Nat} (hn : n ≤ h.length) (hi : i < n) (h1 : p (h[i]'(by omega)) = true) (h2 : ∀ j (hj : j < h.length), j < i → p h[j] = false) : idxOf (h.take n) p = i := by
  refine idxOf_hit (i := i) (by simp; omega) (by simpa using h1) fun j hj hji => ?_
  simp only [List.length_take] at hj
  rw [List.getElem_take]; exact h2 j (by omega) hji
theorem idxTake_miss {α : Type} {h : List α} {p : α → Bool} {n : Nat} (h2 : ∀ j (hj : j < h.length), j < n → p h[j] = false) : idxOf (h.take n) p = -1 := by
  refine idxOf_miss fun j hj => ?_
  simp only [List.length_take] at hj
  rw [List.getElem_take]; exact h2 j (by omega) (by omega)
/-- The reference's End. -/
theorem refEnd_c (h : List Ev) (hl : h.length ≤ 140737488355328) (o : Sh.Own) (txn : Int) (n : Nat) (hn : n ≤ h.length) : PureC Tryz.prog 35 [avH h o, .int .i64 txn, .int .i64 n] (.int .i64 (idxOf (h.take n) (endP txn))) := by
  refine pure_of_dwp Tryz.func35 rfl (by kernel_rfl) (by simp [Tryz.ntmps35]) fun st K hK => ?_
  rw [Tryz.ntmps35]
  refine dwp_of_vk (by kernel_rfl) ?_
  simp
  refine lk_loop (α := Nat) (fun i => Env.ofList [(0, avH h o), (1, .int .i64 txn), (2, .int .i64 n), (7, .int .i64 i)]) (fun _ => st) (fun i => i ≤ n ∧ ∀ j (hj : j < h.length), j < i → endP txn h[j] = false) (fun i => n - i) 0 (by kernel_rfl) ⟨Nat.zero_le _, fun _ _ hj => absurd hj (by omega)⟩ (Env.sub_ofList (by simp)) (.refl _) ?_
  rintro i ⟨hi, hno⟩ R hR hX
  simp
  by_cases hlt : i < n
  · have hw : IntKind.i64.wrap (↑i + 1) = ↑i + 1 := wrap_i64 (by omega) (by omega)
    have hih : i < h.length := by omega
    simp [hlt, hih]
    have hgo : endP txn h[i] = false → ∀ env s, Env.sub (Env.ofList [(0, avH h o), (1, .int .i64 txn), (2, .int .i64 n), (7, .int .i64 (i + 1 : Nat))]) env → St.le st s → R .normal env s := by
      intro he env s h1 h2
      refine hR (i + 1) env s ⟨hlt, fun j hj hji => ?_⟩ (by omega) h1 h2
      by_cases e : j = i
      · subst e; exact he
      · exact hno j hj (by omega)
    have hst : endP txn h[i] = true → K (.int .i64 i) st := fun he => by
      rw [idxTake_hit hn hlt he hno] at hK; exact hK
    by_cases ht : h[i].txn = txn
    · by_cases h4 : h[i].kind = 4
      · simp [ht, h4, hih]
        refine hX .ret _ _ (by simp) ?_
        simp [Tryz.results35]
        exact fin (hst (by simp [endP, ht, h4]))
      · by_cases h5 : h[i].kind = 5
        · simp [ht, h4, h5, hih]
          refine hX .ret _ _ (by simp) ?_
          simp [Tryz.results35]
          exact fin (hst (by simp [endP, ht, h5]))
        · simp [ht, h4, h5, hih, hw]
          exact hgo (by simp [endP, h4, h5]) _ _ (Env.sub_ofList (by simp [hw])) (.refl _)
    · simp [ht, hw]
      exact hgo (by simp [endP, ht]) _ _ (Env.sub_ofList (by simp [hw])) (.refl _)
  · simp [hlt]
    refine hX _ _ _ (by simp) ?_
    simp [Tryz.results35]
    exact fin (by rw [idxTake_miss fun j hj hjn => hno j hj (by omega)] at hK; exact hK)
theorem refFirst_c (h : List Ev) (hl : h.length ≤ 140737488355328) (o : Sh.Own) (txn : Int) (n : Nat) (hn : n ≤ h.length) : PureC Tryz.prog 34 [avH h o, .int .i64 txn, .int .i64 n] (.int .i64 (idxOf (h.take n) fun e => decide (e.txn = txn))) := by
  refine pure_of_dwp Tryz.func34 rfl (by kernel_rfl) (by simp [Tryz.ntmps34]) fun st K hK => ?_
  rw [Tryz.ntmps34]
  refine dwp_of_vk (by kernel_rfl) ?_
  simp
  refine lk_loop (α := Nat) (fun i => Env.ofList [(0, avH h o), (1, .int .i64 txn), (2, .int .i64 n), (7, .int .i64 i)]) (fun _ => st) (fun i => i ≤ n ∧ ∀ j (hj : j < h.length), j < i → decide (h[j].txn = txn) = false) (fun i => n - i) 0 (by kernel_rfl) ⟨Nat.zero_le _, fun _ _ hj => absurd hj (by omega)⟩ (Env.sub_ofList (by simp)) (.refl _) ?_
  rintro i ⟨hi, hno⟩ R hR hX
  simp
  by_cases hlt : i < n
  · have hw : IntKind.i64.wrap (↑i + 1) = ↑i + 1 := wrap_i64 (by omega) (by omega)
    have hih : i < h.length := by omega
    simp [hlt, hih]
    by_cases ht : h[i].txn = txn
    · simp [ht]
      refine hX .ret _ _ (by simp) ?_
      simp [Tryz.results34]
      exact fin (by rw [idxTake_hit (p := fun e : Ev => decide (e.txn = txn)) hn hlt (by simp [ht]) hno] at hK; exact hK)
    · simp [ht, hw]
      refine hR (i + 1) _ _ ⟨hlt, fun j hj hji => ?_⟩ (by omega) (Env.sub_ofList (by simp [hw])) (.refl _)
      by_cases e : j = i
      · subst e; simp [ht]
      · exact hno j hj (by omega)
  · simp [hlt]
    refine hX _ _ _ (by simp) ?_
    simp [Tryz.results34]
    exact fin (by rw [idxTake_miss (p := fun e : Ev => decide (e.txn = txn)) fun j hj hjn => hno j hj (by omega)] at hK; exact hK)
def comOf (h : List Ev) (t : Int) : Int := if endOf h t < 0 ∨ (h.getD (endOf h t).toNat default).kind ≠ 4 then -1 else endOf h t
theorem refCom_c (h : List Ev) (hl : h.length ≤ 140737488355328) (o : Sh.Own) (txn : Int) : PureC Tryz.prog 65 [avH h o, .int .i64 txn] (.int .i64 (comOf h txn)) := by
  refine pure_of_dwp Tryz.func65 rfl (by kernel_rfl) (by simp [Tryz.ntmps65]) fun st K hK => ?_
  rw [Tryz.ntmps65]
  refine dwp_of_vk (by kernel_rfl) ?_
  have he := refEnd_c h hl o txn h.length (Nat.le_refl _)
  rw [List.take_length] at he
  simp
  refine callK_pure he ?_
  have hd : comOf h txn = if endOf h txn < 0 ∨ (h.getD (endOf h txn).toNat default).kind ≠ 4 then -1 else endOf h txn := rfl
  rcases endOf_spec h txn with h2 | ⟨n, hn, h2, _⟩
  · rw [h2] at hd
    rw [show idxOf h (endP txn) = -1 from h2]
    simp [Tryz.results65]
    exact fin (by rw [hd] at hK; simpa using hK)
  · rw [h2] at hd
    rw [show idxOf h (endP txn) = n from h2]
    have hnn : ¬ ((n : Int) < 0) := by omega
    by_cases h4 : h[n].kind = 4
    · simp [hnn, hn, h4, Tryz.results65]
      exact fin (by rw [hd] at hK; simpa [hn, h4, hnn] using hK)
    · simp [hnn, hn, h4, Tryz.results65]
      exact fin (by rw [hd] at hK; simpa [hn, h4, hnn] using hK)
/-- The committed transactions, as the reference lists them: -1, 0, .. , up to n of them looked at. -/
def refNodeP (h : List Ev) (t : Int) : Bool := anyB h t && decide (0 ≤ comOf h t)
def refNodesTo (h : List Ev) (n : Nat) : List Int := ((List.range n).map fun k : Nat => (k : Int) - 1).filter (refNodeP h)
theorem refNodesTo_length (h : List Ev) (n : Nat) : (refNodesTo h n).length ≤ n := by
  unfold refNodesTo
  exact Nat.le_trans (List.length_filter_le _ _) (by simp)
theorem refNodes_c (h : List Ev) (hl : h.length ≤ 1073741824) (o : Sh.Own) : PureC Tryz.prog 29 [avH h o] (avI (refNodesTo h 301) .no) := by
  intro st K hK
  refine dcall_gh (K' := fun v s => ∃ id off c, v = .rowp id off 1 (refNodesTo h 301).length c ∧ Acc st s id off c 3 1 ((refNodesTo h 301).map celI)) ?_ ?_
  · rintro v s ⟨id, off, c, rfl, h2⟩
    refine ⟨_, _, ?_, hK⟩
    have := gh_row h2
    simpa using this
  refine dcall_of_dwp Tryz.func29 rfl (by kernel_rfl) (by simp [Tryz.ntmps29]) ?_
  rw [Tryz.ntmps29]
  refine dwp_of_vk (by kernel_rfl) ?_
  simp
  refine lk_loop (α := Nat × Nat × Nat × Nat × St) (fun x => Env.ofList [(0, avH h o), (3, .rowp x.2.1 x.2.2.1 1 (refNodesTo h x.1).length x.2.2.2.1), (4, .int .i64 ((x.1 : Int) - 1))]) (fun x => x.2.2.2.2)
    (fun x => x.1 ≤ 301 ∧ Acc st x.2.2.2.2 x.2.1 x.2.2.1 x.2.2.2.1 3 1 ((refNodesTo h x.1).map celI)) (fun x => 301 - x.1) (0, 0, 0, 0, st) (by kernel_rfl) ⟨Nat.zero_le _, Acc.nil ..⟩ (Env.sub_ofList (by simp [refNodesTo, sub_rowp])) (.refl _) ?_
  rintro ⟨n, id, off, c, s⟩ ⟨hn, ha⟩ R hR hX
  simp only at hn ha
  have hnl := refNodesTo_length h n
  simp
  by_cases hlt : n < 301
  · have hlt' : (n : Int) - 1 < 300 := by omega
    have hw : IntKind.i64.wrap (↑n - 1 + 1) = ↑n - 1 + 1 := wrap_i64 (by omega) (by omega)
    have hs : refNodesTo h (n + 1) = refNodesTo h n ++ if refNodeP h ((n : Int) - 1) then [(n : Int) - 1] else [] := by
      unfold refNodesTo
      rw [List.range_succ, List.map_append, List.filter_append]
      cases hc : refNodeP h ((n : Int) - 1) <;> simp [hc]
    simp [hlt']
    have hnext : (n : Int) = ((n : Int) - 1) + 1 := by omega
    generalize (n : Int) - 1 = t at *
    refine lk_loop (α := Nat) (fun i => Env.ofList [(0, avH h o), (3, .rowp id off 1 (refNodesTo h n).length c), (4, .int .i64 t), (5, .bool (anyB (h.take i) t)), (6, .int .i64 i)]) (fun _ => s) (fun i => i ≤ h.length) (fun i => h.length - i) 0 (by kernel_rfl) (Nat.zero_le _) (Env.sub_ofList (by simp [anyB])) (.refl _) ?_
    intro i hi R2 hR2 hX2
    simp
    by_cases hih : i < h.length
    · have hwi : IntKind.i64.wrap (↑i + 1) = ↑i + 1 := wrap_i64 (by omega) (by omega)
      have hsi := anyB_succ h i hih t
      simp [hih]
      cases ha2 : anyB (h.take i) t
      · rw [ha2] at hsi
        simp [hih, hwi]
        refine hR2 (i + 1) _ _ hih (by omega) (Env.sub_ofList (by simp [hwi, hsi])) (.refl _)
      · rw [ha2] at hsi
        simp [hwi]
        refine hR2 (i + 1) _ _ hih (by omega) (Env.sub_ofList (by simp [hwi, hsi])) (.refl _)
    · have : i = h.length := by omega
      subst this
      simp
      refine hX2 _ _ _ (by simp) ?_
      have hb1 : ((refNodesTo h n).length + 1) * 8 ≤ 140737488355328 := by omega
      have hb2 : (refNodesTo h n).length ≤ 9223372036854775806 := by omega
      cases hany : anyB h t
      · have hp : refNodeP h t = false := by simp [refNodeP, hany]
        rw [hp] at hs
        simp only [Bool.false_eq_true, if_false, List.append_nil] at hs
        simp [hw]
        exact hR (n + 1, id, off, c, s) _ _ ⟨hlt, by rw [hs]; exact ha⟩ (by simp; omega) (Env.sub_ofList (by simp [hw, hs, hnext])) (.refl _)
      · simp
        refine callK_pure (refCom_c h (by omega) o t) ?_
        by_cases hc : 0 ≤ comOf h t
        · have hp : refNodeP h t = true := by simp [refNodeP, hany, hc]
          rw [hp] at hs
          simp only [if_true] at hs
          simp [hc, hb1, hb2]
          refine appr_intro (ys := [celI t]) ha (by simp) (by simp) fun id' off' c' s' ha' _ => ?_
          simp [hw]
          exact hR (n + 1, id', off', c', s') _ _ ⟨hlt, by simpa [hs] using ha'⟩ (by simp; omega) (Env.sub_ofList (by simp [hw, hs, hnext])) (.refl _)
        · have hp : refNodeP h t = false := by simp [refNodeP, hc]
          rw [hp] at hs
          simp only [Bool.false_eq_true, if_false, List.append_nil] at hs
          simp [hc, hw]
          exact hR (n + 1, id, off, c, s) _ _ ⟨hlt, by rw [hs]; exact ha⟩ (by simp; omega) (Env.sub_ofList (by simp [hw, hs, hnext])) (.refl _)
  · have hlt' : ¬ ((n : Int) - 1 < 300) := by omega
    simp [hlt']
    refine hX _ _ _ (by simp) ?_
    have : n = 301 := by omega
    subst this
    simp [Tryz.results29]
    exact fin ⟨id, off, c, rfl, ha⟩
end Go.Proofs

namespace Go.Proofs
open Go Go.Sh
set_option maxRecDepth 20000
theorem lives_complete {h : List Ev} {i : Nat} (hi : i < h.length) (ha : anyB (h.take i) h[i].txn = false) : ∀ n, n ≤ h.length → i < n → lifeOf h h[i].txn i ∈ livesTo h n
  | 0, _, h0 => absurd h0 (by omega)
  | n + 1, hn, hin => by
    have e : h.getD n default = h[n] := by simp [show n < h.length by omega]
    unfold livesTo
    by_cases hnn : i < n
    · have ih := lives_complete hi ha n (by omega) hnn
      split
      · exact ih
      · exact List.mem_append_left _ ih
    · have : i = n := by omega
      subst this
      rw [e, ha]
      simp
theorem lives_nodup (h : List Ev) : ∀ n, n ≤ h.length → ((livesTo h n).map (·.txn)).Nodup
  | 0, _ => by simp [livesTo]
  | n + 1, hn => by
    have e : h.getD n default = h[n] := by simp [show n < h.length by omega]
    have ih := lives_nodup h n (by omega)
    unfold livesTo
    rw [e]
    split
    · exact ih
    · rename_i ha
      rw [List.map_append, List.nodup_append]
      refine ⟨ih, by simp, fun a h1 b h2 hab => ?_⟩
      subst hab
      obtain ⟨l, hl, rfl⟩ := List.mem_map.1 h1
      obtain ⟨i, hi, h3, h4, rfl⟩ := lives_mem (by omega) hl
      simp only [List.map_cons, List.map_nil, List.mem_singleton, lifeOf] at h2
      exact anyB_false (by simpa using ha) i hi h3 h2
theorem mem_comLives {h : List Ev} {t : Int} : t ∈ (comLives h).map (·.txn) ↔ refNodeP h t = true := by
  constructor
  · intro hm
    obtain ⟨l, hl, rfl⟩ := List.mem_map.1 hm
    obtain ⟨h1, h2⟩ := List.mem_filter.1 hl
    obtain ⟨i, hi, _, h3, rfl⟩ := lives_mem (Nat.le_refl _) h1
    simp only [lifeOf, decide_eq_true_eq] at h2 ⊢
    have e : comOf h h[i].txn = endOf h h[i].txn := by unfold comOf; rw [if_neg (by omega)]
    have ha : anyB h h[i].txn = true := by
      simp only [anyB, List.any_eq_true, decide_eq_true_eq]
      exact ⟨h[i], List.getElem_mem hi, rfl⟩
    unfold refNodeP
    rw [ha, e, decide_eq_true h2.1]; rfl
  · intro hp
    unfold refNodeP at hp
    simp only [Bool.and_eq_true, decide_eq_true_eq] at hp
    obtain ⟨ha, hc⟩ := hp
    have hex : ¬ (idxOf h (fun e => decide (e.txn = t)) = -1 ∧ ∀ x ∈ h, decide (x.txn = t) = false) := by
      rintro ⟨_, h2⟩
      simp only [anyB, List.any_eq_true, decide_eq_true_eq] at ha
      obtain ⟨x, hx, hxt⟩ := ha
      have := h2 x hx
      simp [hxt] at this
    rcases idxOf_spec h (fun e => decide (e.txn = t)) with h1 | ⟨i, hi, _, h2, h3⟩
    · exact absurd h1 hex
    · simp only [decide_eq_true_eq] at h2
      subst h2
      have hb : anyB (h.take i) h[i].txn = false := by
        cases hb : anyB (h.take i) h[i].txn with
        | false => rfl
        | true =>
          simp only [anyB, List.any_eq_true, decide_eq_true_eq] at hb
          obtain ⟨x, hx, hxt⟩ := hb
          obtain ⟨j, hj, rfl⟩ := List.mem_take_iff_getElem.1 hx
          have := h3 j (by omega) (by omega)
          simp [hxt] at this
      refine List.mem_map.2 ⟨lifeOf h h[i].txn i, List.mem_filter.2 ⟨lives_complete hi hb h.length (Nat.le_refl _) hi, ?_⟩, rfl⟩
      unfold comOf at hc
      split at hc
      · omega
      · rename_i hn
        simp only [lifeOf, decide_eq_true_eq]
        omega
theorem nodesOf_nodup (h : List Ev) : (nodesOf h).Nodup := by
  refine (sortI_isPerm _).nodup_iff.2 ?_
  exact ((List.filter_sublist (p := fun l : Lf => l.com)).map (·.txn)).nodup (lives_nodup h h.length (Nat.le_refl _))
theorem refNodes_sorted (h : List Ev) : ∀ n, (refNodesTo h n).Pairwise fun a b => a < b := by
  intro n
  unfold refNodesTo
  refine List.Pairwise.filter _ ?_
  rw [List.pairwise_map]
  exact List.pairwise_lt_range.imp fun hab => by omega
theorem nodes_ref (h : List Ev) (hf : ∀ e ∈ h, 0 ≤ e.txn ∧ e.txn ≤ 60) : nodesOf h = refNodesTo h 301 := by
  have hn2 : (refNodesTo h 301).Nodup := (refNodes_sorted h 301).imp fun hab => by omega
  have hmem : ∀ t, t ∈ nodesOf h ↔ t ∈ refNodesTo h 301 := by
    intro t
    rw [show t ∈ nodesOf h ↔ t ∈ (comLives h).map (·.txn) from (sortI_isPerm _).mem_iff, mem_comLives]
    unfold refNodesTo
    rw [List.mem_filter]
    constructor
    · intro hp
      refine ⟨?_, hp⟩
      have ha := hp
      unfold refNodeP at ha
      simp only [Bool.and_eq_true, anyB, List.any_eq_true, decide_eq_true_eq] at ha
      obtain ⟨⟨x, hx, rfl⟩, _⟩ := ha
      have := hf x hx
      exact List.mem_map.2 ⟨(x.txn + 1).toNat, List.mem_range.2 (by omega), by omega⟩
    · exact fun hp => hp.2
  have hp : (nodesOf h).Perm (refNodesTo h 301) := (List.perm_ext_iff_of_nodup (nodesOf_nodup h) hn2).2 hmem
  exact List.Perm.eq_of_pairwise (le := fun a b : Int => a ≤ b) (fun a b _ _ h1 h2 => by omega) (sortI_sorted _) ((refNodes_sorted h 301).imp fun hab => by omega) hp
end Go.Proofs

namespace Go.Proofs
open Go Go.Sh
set_option maxRecDepth 20000
theorem count_succ (l : List Int) (x : Int) (k : Nat) (hk : k < l.length) : (l.take (k + 1)).count x = (l.take k).count x + if l[k] = x then 1 else 0 := by
  rw [List.take_succ_eq_append_getElem hk, List.count_append]
  congr 1
  by_cases h : l[k] = x <;> simp [h]
theorem checkNodes_c (h : List Ev) (hl : h.length ≤ 140737488355328) (o : Sh.Own) (level : Int) (order : List Int) (hlo : order.length ≤ 140737488355328) (o1 : Sh.Own) :
    PureC Tryz.prog 11 [avH h o, .int .i64 level, avI order o1] (.bool true) := by
  refine pure_of_dwp Tryz.func11 rfl (by kernel_rfl) (by simp [Tryz.ntmps11]) fun st K hK => ?_
  rw [Tryz.ntmps11]
  refine dwp_of_vk (by kernel_rfl) ?_
  simp
  refine callK_pure shown_c ?_
  simp
  refine callK_pure (few_c h hl o) ?_
  cases hf : few13 h
  · simp [Tryz.results11]
    exact fin hK
  have hh : h.length ≤ 80 := by simp [few13] at hf; exact hf.2
  have hft : ∀ e ∈ h, 0 ≤ e.txn ∧ e.txn ≤ 60 := by simp [few13] at hf; exact hf.1
  by_cases h2 : (100 : Int) < order.length
  · simp [h2, Tryz.results11]
    exact fin hK
  simp [h2]
  refine callK_pure (checkAhead_c h (by omega) o level order (by omega) o1) ?_
  cases ha : aheadOk h level order
  · simp [Tryz.results11]
    exact fin hK
  simp
  refine callK_pure (refNodes_c h (by omega) o) ?_
  have hs : sortI order = refNodesTo h 301 := by
    rw [← nodes_ref h hft]
    unfold aheadOk at ha
    simp only [Bool.and_eq_true, decide_eq_true_eq] at ha
    exact ha.1
  have hnd : (refNodesTo h 301).Nodup := by rw [← nodes_ref h hft]; exact nodesOf_nodup h
  have hcnt : ∀ x ∈ refNodesTo h 301, order.count x = 1 := by
    intro x hx
    rw [← (sortI_isPerm order).count_eq, hs]
    rw [hnd.count, if_pos hx]
  have hlen : (refNodesTo h 301).length = order.length := by rw [← hs, sortI_length]
  generalize refNodesTo h 301 = n at *
  simp [hlen]
  refine lk_loop (α := Nat) (fun i => Env.ofList [(2, avI order o1), (7, .bool true), (9, avI n .no), (10, .int .i64 i)]) (fun _ => st) (fun i => i ≤ n.length) (fun i => n.length - i) 0 (by kernel_rfl) (Nat.zero_le _) (Env.sub_ofList (by simp)) (.refl _) ?_
  intro i hi R hR hX
  simp
  by_cases hin : i < n.length
  · have hwi : IntKind.i64.wrap (↑i + 1) = ↑i + 1 := wrap_i64 (by omega) (by omega)
    simp [hin]
    refine lk_loop (α := Nat) (fun k => Env.ofList [(2, avI order o1), (7, .bool true), (9, avI n .no), (10, .int .i64 i), (11, .int .i64 ((order.take k).count n[i])), (12, .int .i64 k)]) (fun _ => st) (fun k => k ≤ order.length) (fun k => order.length - k) 0 (by kernel_rfl) (Nat.zero_le _) (Env.sub_ofList (by simp)) (.refl _) ?_
    intro k hk R2 hR2 hX2
    simp
    by_cases hkl : k < order.length
    · have hwk : IntKind.i64.wrap (↑k + 1) = ↑k + 1 := wrap_i64 (by omega) (by omega)
      have hcl : (order.take k).count n[i] ≤ k := by
        refine Nat.le_trans List.count_le_length ?_
        simp; omega
      have hwc : IntKind.i64.wrap (↑((order.take k).count n[i]) + 1) = ↑((order.take k).count n[i]) + 1 := wrap_i64 (by omega) (by omega)
      have hcs := count_succ order n[i] k hkl
      simp [hkl]
      refine lk_draw mixed (List.replicate 9 []) [] (by kernel_rfl) ?_
      simp [hkl, hin]
      by_cases he : order[k] = n[i]
      · rw [if_pos he] at hcs
        simp [he, hwk, hwc]
        exact hR2 (k + 1) _ _ hkl (by omega) (Env.sub_ofList (by simp [hwk, hcs])) (.refl _)
      · rw [if_neg he, Nat.add_zero] at hcs
        simp [he, hwk]
        exact hR2 (k + 1) _ _ hkl (by omega) (Env.sub_ofList (by simp [hwk, hcs])) (.refl _)
    · have : k = order.length := by omega
      subst this
      simp
      refine hX2 _ _ _ (by simp) ?_
      have h1 := hcnt n[i] (List.getElem_mem hin)
      simp [h1, hwi]
      exact hR (i + 1) _ _ hin (by omega) (Env.sub_ofList (by simp [hwi])) (.refl _)
  · simp [hin]
    refine hX _ _ _ (by simp) ?_
    simp [Tryz.results11]
    exact fin hK
theorem checkNodes_pure (u1 : AV) (h1 : ShapeV Tryz.prog 12 22 u1) (u2 : AV) (h2 : ShapeV Tryz.prog 12 3 u2) (u3 : AV) (h3 : ShapeV Tryz.prog 12 33 u3) : PureC Tryz.prog 11 [u1, u2, u3] (.bool true) := by
  simp only [ShapeV, Tryz.underlying22] at h1
  simp only [ShapeV, Tryz.underlying3] at h2
  simp only [ShapeV, Tryz.underlying33] at h3
  obtain ⟨l, hu, hl⟩ := shape22 h1
  obtain ⟨n, hu2⟩ := shape3 h2
  obtain ⟨r, hu3, hr⟩ := shape33 h3
  injection hu with hu
  injection hu2 with hu2
  injection hu3 with hu3
  subst hu hu2 hu3
  exact checkNodes_c l hl .no n r hr .no
end Go.Proofs
