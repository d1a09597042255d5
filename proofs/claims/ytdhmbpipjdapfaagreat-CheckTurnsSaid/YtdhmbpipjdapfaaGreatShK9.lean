import Derived.Test.YtdhmbpipjdapfaaGreatShK8
namespace Go.Proofs
open Go Go.Sh
set_option maxRecDepth 20000
@[simp] theorem ti35 : tiOf Tryz.prog 35 = some ⟨.struct [(0, 3), (1, 3), (2, 3)], 3, 24, [.int .i64 0, .int .i64 0, .int .i64 0]⟩ := by kernel_rfl
theorem resAV_cell2 {P : Program} {env : Env} {st : St} {x t u : Nat} {i : TI} {id off : Nat} {tt : TypeId} {cs : List AV} (ht : tiOf P t = some i) (hx : env x = .box id off) (hs : st id = some (.cells tt cs))
    (hl : off + i.size ≤ cs.length ∧ (i.k.agg = false → i.size = 1)) : resAV P env st [.cell x t, .tmp u] = some (.tup [if i.k.agg then .agg ((cs.drop off).take i.size) else cs.getD off .undef, env u]) := by
  simp only [resAV, resAll, resOne, ht, hx, hs]
  rw [if_pos hl]
def hasTxn (txn : Int) (e : Ev) : Bool := decide (e.txn = txn)
def findOf (h : List Ev) (txn : Int) : Lf × Bool := if idxOf h (hasTxn txn) < 0 then (⟨0, 0, 0, false⟩, false) else (lifeOf h txn (idxOf h (hasTxn txn)), true)
theorem find1_c (e : Ev) (txn : Int) {a : Nat} {st : St} (ha : st a = some (.cells 3 [.int .i64 txn])) {K : AV → St → Prop}
    (hK : K (.bool (hasTxn txn e)) st) : dcall Tryz.prog 143 [.agg (encEv e), .box a 0] st K := by
  refine dcall_of_dwp Tryz.func143 rfl (by kernel_rfl) (by simp [Tryz.ntmps143]) ?_
  rw [Tryz.ntmps143]
  refine dwp_of_vk (by kernel_rfl) ?_
  simp
  refine newK_intro fun x hx => ?_
  have hax : a ≠ x := by rintro rfl; rw [ha] at hx; cases hx
  have hca := cellsAt_of ha
  simp [hax, hca, Tryz.results143]
  exact fin' (.refl _) (le_upd hx _) (by simpa [hasTxn] using hK)
theorem idxOf_nat {α : Type} {h : List α} {p : α → Bool} (hn : ¬ idxOf h p < 0) : ∃ n, ∃ hn : n < h.length, idxOf h p = n ∧ p h[n] = true := by
  unfold idxOf at *
  cases hf : h.findIdx? p with
  | none => rw [hf] at hn; simp at hn
  | some n =>
    obtain ⟨h1, h2, h3⟩ := List.findIdx?_eq_some_iff_getElem.1 hf
    exact ⟨n, h1, by simp, h2⟩
theorem find_c (h : List Ev) (hl : h.length ≤ 140737488355328) (o : Sh.Own) (txn : Int) : PureC Tryz.prog 119 [avH h o, .int .i64 txn] (.tup [.agg (encLf (findOf h txn).1), .bool (findOf h txn).2]) := by
  refine pure_of_dwp Tryz.func119 rfl (by kernel_rfl) (by simp [Tryz.ntmps119]) fun st K hK => ?_
  rw [Tryz.ntmps119]
  refine dwp_of_vk (by kernel_rfl) ?_
  simp
  refine newK_intro fun a ha => ?_
  simp
  refine newK_intro fun r hr => ?_
  rw [upd_none_iff] at hr
  obtain ⟨hra, hr⟩ := hr
  have har := Ne.symm hra
  simp
  refine callK_intro (idxEv_c h hl o 143 [.box a 0] (hasTxn txn) (fun e _ K' hK' => find1_c e txn (by simp [har]) hK') ?_)
  simp
  by_cases hn : idxOf h (hasTxn txn) < 0
  · simp [hn, har, hra]
    refine ⟨_, resAV_cell2 (id := r) (off := 0) (tt := 32) (cs := encLf ⟨0, 0, 0, false⟩) ti32 (by simp) (by simp) (by simp [TK.agg]), _, .refl _, st, ?_, by simpa [findOf, hn] using hK⟩
    repeat first | exact .refl _ | refine le_right (by assumption) ?_
  · obtain ⟨n, hnl, hne, hp⟩ := idxOf_nat hn
    have htx : h[n].txn = txn := by simpa [hasTxn] using hp
    have hf : findOf h txn = (lifeOf h h[n].txn n, true) := by unfold findOf; rw [if_neg hn, hne, htx]
    rw [hf] at hK
    rw [hne]
    simp [show ¬ ((n : Int) < 0) by omega]
    refine callK_pure (life_c h hl o n hnl) ?_
    simp [har, hra]
    refine ⟨_, resAV_cell2 (id := r) (off := 0) (tt := 32) (cs := encLf (lifeOf h h[n].txn n)) ti32 (by simp) (by simp) (by simp [TK.agg]), _, .refl _, st, ?_, by simpa using hK⟩
    repeat first | exact .refl _ | refine le_right (by assumption) ?_

def countsE (h : List Ev) (i : Int) : Bool := decide (0 ≤ i ∧ i < h.length) && decide ((h.getD i.toNat default).kind = 2) &&
  ((findOf h (h.getD i.toNat default).txn).2 && (findOf h (h.getD i.toNat default).txn).1.com && decide (i < (findOf h (h.getD i.toNat default).txn).1.to))
theorem counts_c (h : List Ev) (hl : h.length ≤ 140737488355328) (o : Sh.Own) (i : Int) : PureC Tryz.prog 116 [avH h o, .int .i64 i] (.bool (countsE h i)) := by
  refine pure_of_dwp Tryz.func116 rfl (by kernel_rfl) (by simp [Tryz.ntmps116]) fun st K hK => ?_
  rw [Tryz.ntmps116]
  refine dwp_of_vk (by kernel_rfl) ?_
  have hst : ∀ (v : Bool) (s : St), v = countsE h i → St.le st s → ∃ r', AV.sub r' (.bool v) ∧ ∃ x, St.le x s ∧ K r' x := by
    rintro v s rfl hl
    exact fin' (.refl _) hl hK
  simp
  by_cases h1 : i < 0
  · simp [h1, Tryz.results116]
    exact hst _ _ (by have : ¬ (0 ≤ i ∧ i < h.length) := by omega
                      simp [countsE, this]) (.refl _)
  by_cases h2 : (h.length : Int) ≤ i
  · simp [h1, h2, Tryz.results116]
    exact hst _ _ (by have : ¬ (0 ≤ i ∧ i < h.length) := by omega
                      simp [countsE, this]) (.refl _)
  obtain ⟨n, rfl⟩ : ∃ n : Nat, i = n := ⟨i.toNat, by omega⟩
  have hn : n < h.length := by omega
  have hdef : h.getD n default = h[n] := by simp [hn]
  by_cases h3 : h[n].kind = 2
  · have hc : countsE h n = ((findOf h h[n].txn).2 && (findOf h h[n].txn).1.com && decide ((n : Int) < (findOf h h[n].txn).1.to)) := by
      unfold countsE
      rw [Int.toNat_natCast, hdef]
      simp [h3, hn]
    rw [hc] at hst
    simp [h1, h2, hn, h3]
    refine callK_pure (find_c h hl o h[n].txn) ?_
    simp
    refine newK_intro fun x hx => ?_
    simp
    cases hf2 : (findOf h h[n].txn).2
    · simp [hf2, Tryz.results116]
      exact hst _ _ (by simp [hf2]) (le_right hx (le_right hx (.refl _)))
    · cases hf1 : (findOf h h[n].txn).1.com
      · simp [hf2, hf1, Tryz.results116]
        exact hst _ _ (by simp [hf2, hf1]) (le_right hx (le_right hx (.refl _)))
      · simp [hf2, hf1, Tryz.results116]
        exact hst _ _ (by simp [hf2, hf1]) (le_right hx (le_right hx (.refl _)))
  · simp [h1, h2, hn, h3, Tryz.results116]
    exact hst _ _ (by simp [countsE, hn, h3]) (.refl _)

structure Bd where
  kind : Int
  i : Int
  j : Int
  deriving Inhabited, DecidableEq
@[simp] def encBd (b : Bd) : List AV := [.int .i64 b.kind, .int .i64 b.i, .int .i64 b.j]
def ownE (h : List Ev) (i k : Nat) : Bd := if (h.getD i default).val ≠ (h.getD k default).val then ⟨3, i, k⟩ else ⟨0, 0, 0⟩
theorem own_c (h : List Ev) (o : Sh.Own) (i k : Nat) (hi : i < h.length) (hk : k < h.length) : PureC Tryz.prog 118 [avH h o, .int .i64 i, .int .i64 k] (.agg (encBd (ownE h i k))) := by
  refine pure_of_dwp Tryz.func118 rfl (by kernel_rfl) (by simp [Tryz.ntmps118]) fun st K hK => ?_
  rw [Tryz.ntmps118]
  refine dwp_of_vk (by kernel_rfl) ?_
  simp
  refine newK_intro fun r hr => ?_
  simp
  refine lk_draw mixed [[], [], [], [], [], [], [], [], [], [], []] [] (by kernel_rfl) ?_
  simp [hi, hk]
  have hdi : h.getD i default = h[i] := by simp [hi]
  have hdk : h.getD k default = h[k] := by simp [hk]
  by_cases he : h[i].val = h[k].val
  · simp [he]
    refine ⟨_, resAV_cell (id := r) (off := 0) (tt := 35) (cs := encBd ⟨0, 0, 0⟩) ti35 (by simp) (by simp) (by simp [TK.agg]), _, .refl _, st, ?_, by simpa [ownE, hi, hk, he] using hK⟩
    repeat first | exact .refl _ | refine le_right (by assumption) ?_
  · simp [he]
    refine ⟨_, resAV_cell (id := r) (off := 0) (tt := 35) (cs := encBd ⟨3, i, k⟩) ti35 (by simp) (by simp) (by simp [TK.agg]), _, .refl _, st, ?_, by simpa [ownE, hi, hk, he] using hK⟩
    repeat first | exact .refl _ | refine le_right (by assumption) ?_
end Go.Proofs
