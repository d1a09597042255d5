import Derived.Test.YtdhmbpipjdapfaaGreatShK2
namespace Go.Proofs
open Go Go.Sh
set_option maxRecDepth 20000
/-- The place of the first one. -/
def idxOf {α : Type} (h : List α) (p : α → Bool) : Int := match h.findIdx? p with | some i => i | none => -1
theorem idxOf_hit {α : Type} {h : List α} {p : α → Bool} {i : Nat} (hi : i < h.length) (h1 : p h[i] = true) (h2 : ∀ j (hj : j < h.length), j < i → p h[j] = false) : idxOf h p = i := by
  unfold idxOf
  have : h.findIdx? p = some i := by
    rw [List.findIdx?_eq_some_iff_getElem]
    exact ⟨hi, h1, fun j hj => by simp [h2 j (by omega) hj]⟩
  rw [this]
theorem idxOf_miss {α : Type} {h : List α} {p : α → Bool} (h2 : ∀ j (hj : j < h.length), p h[j] = false) : idxOf h p = -1 := by
  unfold idxOf
  have : h.findIdx? p = none := by
    rw [List.findIdx?_eq_none_iff]
    intro x hx
    obtain ⟨j, hj, rfl⟩ := List.getElem_of_mem hx
    exact h2 j hj
  rw [this]
theorem idxOf_lt {α : Type} (h : List α) (p : α → Bool) : idxOf h p < h.length := by
  unfold idxOf
  split
  · rename_i i hi
    have := (List.findIdx?_eq_some_iff_getElem.1 hi).1
    omega
  · omega
theorem idxOf_ge {α : Type} (h : List α) (p : α → Bool) : -1 ≤ idxOf h p := by
  unfold idxOf
  split <;> omega

theorem keyed_c (k : Int) : PureC Tryz.prog 121 [.int .i64 k] (.bool (decide (k = 2 ∨ k = 3))) := by
  refine pure_of_dwp Tryz.func121 rfl (by kernel_rfl) (by simp [Tryz.ntmps121]) fun st K hK => ?_
  rw [Tryz.ntmps121]
  refine dwp_of_vk (by kernel_rfl) ?_
  simp
  by_cases h2 : k = 2
  · simp [h2, Tryz.results121]
    exact fin (by simpa [h2] using hK)
  · simp [h2, Tryz.results121]
    exact fin (by simpa [h2] using hK)

theorem idxEv_c (h : List Ev) (hl : h.length ≤ 140737488355328) (o : Sh.Own) (g : FuncId) (caps : List AV) (p : Ev → Bool) {st : St} {K : AV → St → Prop}
    (hp : ∀ e ∈ h, ∀ K' : AV → St → Prop, K' (.bool (p e)) st → dcall Tryz.prog g (.agg (encEv e) :: caps) st K') (hK : K (.int .i64 (idxOf h p)) st) :
    dcall Tryz.prog 122 [avH h o, .fn g caps] st K := by
  refine dcall_of_dwp Tryz.func122 rfl (by kernel_rfl) (by simp [Tryz.ntmps122]) ?_
  rw [Tryz.ntmps122]
  refine dwp_of_vk (by kernel_rfl) ?_
  simp
  refine lk_loop (α := Nat) (fun i => Env.ofList [(0, avH h o), (1, .fn g caps), (7, .int .i64 h.length), (8, .int .i64 i)]) (fun _ => st) (fun i => i ≤ h.length ∧ ∀ j (hj : j < h.length), j < i → p h[j] = false) (fun i => h.length - i) 0 (by kernel_rfl) ⟨Nat.zero_le _, fun _ _ hj => absurd hj (by omega)⟩ (Env.sub_ofList (by simp)) (.refl _) ?_
  rintro i ⟨hi, hno⟩ R hR hX
  simp
  by_cases hlt : i < h.length
  · have hw : IntKind.i64.wrap (↑i + 1) = ↑i + 1 := wrap_i64 (by omega) (by omega)
    simp [hlt]
    refine callK_intro (hp h[i] (List.getElem_mem hlt) _ ?_)
    cases hpi : p h[i]
    · simp
      refine hR (i + 1) _ _ ⟨hlt, fun j hj hji => ?_⟩ (by omega) (Env.sub_ofList (by simp [hw])) (.refl _)
      by_cases e : j = i
      · subst e; exact hpi
      · exact hno j hj (by omega)
    · simp
      refine hX .ret _ _ (by simp) ?_
      simp [Tryz.results122]
      exact fin (by rw [idxOf_hit hlt hpi hno] at hK; exact hK)
  · simp [hlt]
    refine hX _ _ _ (by simp) ?_
    simp [Tryz.results122]
    exact fin (by rw [idxOf_miss fun j hj => hno j hj (by omega)] at hK; exact hK)

theorem contEv_c (h : List Ev) (hl : h.length ≤ 140737488355328) (o : Sh.Own) (g : FuncId) (caps : List AV) (p : Ev → Bool) {st : St} {K : AV → St → Prop}
    (hp : ∀ e ∈ h, ∀ K' : AV → St → Prop, K' (.bool (p e)) st → dcall Tryz.prog g (.agg (encEv e) :: caps) st K') (hK : K (.bool (decide (0 ≤ idxOf h p))) st) :
    dcall Tryz.prog 99 [avH h o, .fn g caps] st K := by
  refine dcall_of_dwp Tryz.func99 rfl (by kernel_rfl) (by simp [Tryz.ntmps99]) ?_
  rw [Tryz.ntmps99]
  refine dwp_of_vk (by kernel_rfl) ?_
  simp
  refine callK_intro (idxEv_c h hl o g caps p hp ?_)
  simp [Tryz.results99]
  exact fin hK

theorem writer1_c (e : Ev) (key val : ByteArray) {a b : Nat} {st : St} (ha : st a = some (.cells 9 [.str key])) (hb : st b = some (.cells 9 [.str val])) {K : AV → St → Prop}
    (hK : K (.bool (decide (e.kind = 3 ∧ e.key = key ∧ e.val = val))) st) : dcall Tryz.prog 123 [.agg (encEv e), .box a 0, .box b 0] st K := by
  refine dcall_of_dwp Tryz.func123 rfl (by kernel_rfl) (by simp [Tryz.ntmps123]) ?_
  rw [Tryz.ntmps123]
  refine dwp_of_vk (by kernel_rfl) ?_
  simp
  refine newK_intro fun x hx => ?_
  have hax : a ≠ x := by rintro rfl; rw [ha] at hx; cases hx
  have hbx : b ≠ x := by rintro rfl; rw [hb] at hx; cases hx
  have hca := cellsAt_of ha
  have hcb := cellsAt_of hb
  by_cases h3 : e.kind = 3
  · by_cases hk : e.key = key
    · simp [h3, hk, hax, hbx, hca, hcb, Tryz.results123]
      exact fin' (.refl _) (le_upd hx _) (by simpa [h3, hk] using hK)
    · simp [h3, hk, hax, hbx, hca, hcb, Tryz.results123]
      exact fin' (.refl _) (le_upd hx _) (by simpa [h3, hk] using hK)
  · simp [h3, hax, hbx, hca, hcb, Tryz.results123]
    exact fin' (.refl _) (le_upd hx _) (by simpa [h3] using hK)

def writerOf (h : List Ev) (key val : ByteArray) : Int := idxOf h fun e => decide (e.kind = 3 ∧ e.key = key ∧ e.val = val)
theorem writer_c (h : List Ev) (hl : h.length ≤ 140737488355328) (o : Sh.Own) (key val : ByteArray) : PureC Tryz.prog 100 [avH h o, .str key, .str val] (.int .i64 (writerOf h key val)) := by
  refine pure_of_dwp Tryz.func100 rfl (by kernel_rfl) (by simp [Tryz.ntmps100]) fun st K hK => ?_
  rw [Tryz.ntmps100]
  refine dwp_of_vk (by kernel_rfl) ?_
  simp
  refine newK_intro fun a ha => ?_
  simp
  refine newK_intro fun b hb => ?_
  rw [upd_none_iff] at hb
  obtain ⟨hba, hb⟩ := hb
  simp
  refine callK_intro (idxEv_c h hl o 123 [.box a 0, .box b 0] (fun e => decide (e.kind = 3 ∧ e.key = key ∧ e.val = val)) (fun e _ K' hK' => writer1_c e key val (by simp [Ne.symm hba]) (by simp) hK') ?_)
  simp [Tryz.results100]
  exact fin' (.refl _) (le_right hb (le_right ha (.refl _))) (by simpa [writerOf] using hK)

theorem step1_c (e : Ev) (x : Ev) {a : Nat} {st : St} (ha : st a = some (.cells 30 (encEv x))) {K : AV → St → Prop}
    (hK : K (.bool (decide (e.kind = 3 ∧ e.val = x.val))) st) : dcall Tryz.prog 97 [.agg (encEv e), .box a 0] st K := by
  refine dcall_of_dwp Tryz.func97 rfl (by kernel_rfl) (by simp [Tryz.ntmps97]) ?_
  rw [Tryz.ntmps97]
  refine dwp_of_vk (by kernel_rfl) ?_
  simp
  refine newK_intro fun y hy => ?_
  have hay : a ≠ y := by rintro rfl; rw [ha] at hy; cases hy
  have hca := cellsAt_of ha
  by_cases h3 : e.kind = 3
  · simp [h3, hay, hca, Tryz.results97]
    exact fin' (.refl _) (le_upd hy _) (by simpa [h3] using hK)
  · simp [h3, hay, hca, Tryz.results97]
    exact fin' (.refl _) (le_upd hy _) (by simpa [h3] using hK)
end Go.Proofs
