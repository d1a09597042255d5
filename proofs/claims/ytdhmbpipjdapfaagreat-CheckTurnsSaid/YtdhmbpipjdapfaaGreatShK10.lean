import Derived.Test.YtdhmbpipjdapfaaGreatShK9
namespace Go.Proofs
open Go Go.Sh
set_option maxRecDepth 20000
theorem lastTo_nat {h : List Ev} {txn : Int} {key : ByteArray} {b : Int} : ∀ {n : Nat}, 0 ≤ lastTo h txn key b n → ∃ k : Nat, lastTo h txn key b n = k ∧ k < n ∧ (k : Int) < b ∧ lastP txn key (h.getD k default) = true
  | 0, h => by simp [lastTo] at h
  | n + 1, hk => by
    simp only [lastTo] at hk ⊢
    by_cases hc : (n : Int) < b ∧ lastP txn key (h.getD n default) = true
    · rw [if_pos hc]; exact ⟨n, rfl, by omega, hc.1, hc.2⟩
    · rw [if_neg hc] at hk ⊢
      obtain ⟨k, h1, h2, h3⟩ := lastTo_nat hk
      exact ⟨k, h1, by omega, h3⟩
def atE (h : List Ev) (i : Int) : Bd :=
  if countsE h i = false then ⟨0, 0, 0⟩
  else if 0 ≤ lastOf h (h.getD i.toNat default).txn (h.getD i.toNat default).key i then ownE h i.toNat (lastOf h (h.getD i.toNat default).txn (h.getD i.toNat default).key i).toNat
  else if (h.getD i.toNat default).val = ⟨#[]⟩ ∨ writerOf h (h.getD i.toNat default).key (h.getD i.toNat default).val < 0 then ⟨0, 0, 0⟩
  else if (h.getD (writerOf h (h.getD i.toNat default).key (h.getD i.toNat default).val).toNat default).txn = (h.getD i.toNat default).txn then ⟨4, i, writerOf h (h.getD i.toNat default).key (h.getD i.toNat default).val⟩
  else if (findOf h (h.getD (writerOf h (h.getD i.toNat default).key (h.getD i.toNat default).val).toNat default).txn).1.com = false then ⟨1, i, writerOf h (h.getD i.toNat default).key (h.getD i.toNat default).val⟩
  else if lastOf h (findOf h (h.getD (writerOf h (h.getD i.toNat default).key (h.getD i.toNat default).val).toNat default).txn).1.txn (h.getD i.toNat default).key (findOf h (h.getD (writerOf h (h.getD i.toNat default).key (h.getD i.toNat default).val).toNat default).txn).1.to ≠ writerOf h (h.getD i.toNat default).key (h.getD i.toNat default).val then
    ⟨2, i, lastOf h (findOf h (h.getD (writerOf h (h.getD i.toNat default).key (h.getD i.toNat default).val).toNat default).txn).1.txn (h.getD i.toNat default).key (findOf h (h.getD (writerOf h (h.getD i.toNat default).key (h.getD i.toNat default).val).toNat default).txn).1.to⟩
  else ⟨0, 0, 0⟩
theorem at_c (h : List Ev) (hl : h.length ≤ 140737488355328) (o : Sh.Own) (i : Int) : PureC Tryz.prog 86 [avH h o, .int .i64 i] (.agg (encBd (atE h i))) := by
  refine pure_of_dwp Tryz.func86 rfl (by kernel_rfl) (by simp [Tryz.ntmps86]) fun st K hK => ?_
  rw [Tryz.ntmps86]
  refine dwp_of_vk (by kernel_rfl) ?_
  simp
  refine newK_intro fun r hr => ?_
  simp
  refine callK_pure (counts_c h hl o i) ?_
  have hend : ∀ (b : Bd) (s : St) (env : Env), b = atE h i → env 4 = .box r 0 → s r = some (.cells 35 (encBd b)) → St.le st s → ∃ r_1, resAV Tryz.prog env s [.cell 4 35] = some r_1 ∧ ∃ r', AV.sub r' r_1 ∧ ∃ st', St.le st' s ∧ K r' st' := by
    rintro b s env rfl he hs hle
    exact ⟨_, resAV_cell (id := r) (off := 0) (tt := 35) (cs := encBd (atE h i)) ti35 he hs (by simp [TK.agg]), _, .refl _, st, hle, by simpa using hK⟩
  by_cases hc : countsE h i = false
  · simp [hc]
    refine hend ⟨0, 0, 0⟩ _ _ (by rw [atE, if_pos hc]) (by simp) (by simp) ?_
    repeat first | exact .refl _ | refine le_right (by assumption) ?_
  simp only [Bool.not_eq_false] at hc
  have hin : 0 ≤ i ∧ i < h.length := by
    simp only [countsE, Bool.and_eq_true, decide_eq_true_eq] at hc
    exact hc.1.1
  obtain ⟨n, rfl⟩ : ∃ n : Nat, i = n := ⟨i.toNat, by omega⟩
  have hn : n < h.length := by omega
  have hdef : h.getD n default = h[n] := by simp [hn]
  have hat : atE h n = if 0 ≤ lastOf h h[n].txn h[n].key n then ownE h n (lastOf h h[n].txn h[n].key n).toNat
      else if h[n].val = ⟨#[]⟩ ∨ writerOf h h[n].key h[n].val < 0 then ⟨0, 0, 0⟩
      else if (h.getD (writerOf h h[n].key h[n].val).toNat default).txn = h[n].txn then ⟨4, n, writerOf h h[n].key h[n].val⟩
      else if (findOf h (h.getD (writerOf h h[n].key h[n].val).toNat default).txn).1.com = false then ⟨1, n, writerOf h h[n].key h[n].val⟩
      else if lastOf h (findOf h (h.getD (writerOf h h[n].key h[n].val).toNat default).txn).1.txn h[n].key (findOf h (h.getD (writerOf h h[n].key h[n].val).toNat default).txn).1.to ≠ writerOf h h[n].key h[n].val then
        ⟨2, n, lastOf h (findOf h (h.getD (writerOf h h[n].key h[n].val).toNat default).txn).1.txn h[n].key (findOf h (h.getD (writerOf h h[n].key h[n].val).toNat default).txn).1.to⟩
      else ⟨0, 0, 0⟩ := by
    unfold atE
    rw [if_neg (by rw [hc]; simp), Int.toNat_natCast, hdef]
  rw [hat] at hend
  simp [hc, hn]
  refine newK_intro fun x hx => ?_
  rw [upd_none_iff] at hx
  obtain ⟨hxr, hx⟩ := hx
  have hrx := Ne.symm hxr
  simp
  refine callK_pure (last_c h hl o h[n].txn h[n].key n) ?_
  by_cases hk : 0 ≤ lastOf h h[n].txn h[n].key n
  · obtain ⟨k, hk1, hk2, -⟩ := lastTo_nat (show 0 ≤ lastTo h h[n].txn h[n].key n h.length from hk)
    have hk1 : lastOf h h[n].txn h[n].key n = k := hk1
    rw [if_pos hk, hk1, Int.toNat_natCast] at hend
    simp [hk1]
    refine callK_pure (own_c h o n k hn hk2) ?_
    simp [hrx, hxr]
    refine hend (ownE h n k) _ _ rfl (by simp) (by simp [hrx]) ?_
    repeat first | exact .refl _ | refine le_right (by assumption) ?_
  rw [if_neg hk] at hend
  simp [hk]
  refine callK_pure (writer_c h hl o h[n].key h[n].val) ?_
  simp
  by_cases hv : h[n].val = ⟨#[]⟩
  · simp [hv, hrx, hxr]
    refine hend ⟨0, 0, 0⟩ _ _ (by rw [if_pos (.inl hv)]) (by simp) (by simp [hrx]) ?_
    repeat first | exact .refl _ | refine le_right (by assumption) ?_
  simp [hv]
  by_cases hw : writerOf h h[n].key h[n].val < 0
  · simp [hw, hrx, hxr]
    refine hend ⟨0, 0, 0⟩ _ _ (by rw [if_pos (.inr hw)]) (by simp) (by simp [hrx]) ?_
    repeat first | exact .refl _ | refine le_right (by assumption) ?_
  rw [if_neg (by simp [hv, hw])] at hend
  simp [hw]
  obtain ⟨w, hwl, hwe, -⟩ := idxOf_nat hw
  have hwe : writerOf h h[n].key h[n].val = w := hwe
  have hdw : h.getD w default = h[w] := by simp [hwl]
  rw [hwe, Int.toNat_natCast, hdw] at hend
  rw [hwe]
  refine lk_draw mixed [[], [], [], [], [], [], [], [], []] [] (by kernel_rfl) ?_
  simp [hwl]
  by_cases ht : h[w].txn = h[n].txn
  · simp [ht, hrx, hxr]
    refine hend ⟨4, n, w⟩ _ _ (by rw [if_pos ht]) (by simp) (by simp [hrx]) ?_
    repeat first | exact .refl _ | refine le_right (by assumption) ?_
  rw [if_neg ht] at hend
  simp [ht, hwl]
  refine callK_pure (find_c h hl o h[w].txn) ?_
  simp
  refine newK_intro fun y hy => ?_
  simp only [upd_none_iff] at hy
  obtain ⟨hyx, -, hyr, hy⟩ := hy
  have hxy := Ne.symm hyx
  have hry := Ne.symm hyr
  simp
  by_cases hcm : (findOf h h[w].txn).1.com = false
  · simp [hcm, hrx, hxr, hyr, hry, hxy, hyx]
    refine hend ⟨1, n, w⟩ _ _ (by rw [if_pos hcm]) (by simp) (by simp [hrx, hry]) ?_
    repeat first | exact .refl _ | refine le_right (by assumption) ?_
  rw [if_neg hcm] at hend
  simp only [Bool.not_eq_false] at hcm
  simp [hcm, hxy, hyx]
  refine callK_pure (last_c h hl o _ h[n].key _) ?_
  by_cases hm : lastOf h (findOf h h[w].txn).1.txn h[n].key (findOf h h[w].txn).1.to = w
  · simp [hm, hrx, hxr, hyr, hry, hxy, hyx]
    refine hend ⟨0, 0, 0⟩ _ _ (by rw [if_neg (by simp [hm])]) (by simp) (by simp [hrx, hry]) ?_
    repeat first | exact .refl _ | refine le_right (by assumption) ?_
  · simp [hm, hrx, hxr, hyr, hry, hxy, hyx]
    refine hend ⟨2, n, _⟩ _ _ (by rw [if_pos hm]) (by simp) (by simp [hrx, hry]) ?_
    repeat first | exact .refl _ | refine le_right (by assumption) ?_
end Go.Proofs
