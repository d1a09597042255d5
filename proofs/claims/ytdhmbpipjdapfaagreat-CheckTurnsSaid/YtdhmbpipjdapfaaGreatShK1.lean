import Derived.Test.YtdhmbpipjdapfaaGreatShK0
namespace Go.Proofs
open Go Go.Sh
set_option maxRecDepth 20000
theorem of1_c (h : List Ev) (hl : h.length ≤ 140737488355328) (o : Sh.Own) (txn : Int) {idl a b : Nat} {st : St} {K : AV → St → Prop} (T : Nat → St) (ok : Nat → Prop) (Stop : St → Prop) (h0 : St.le (T 0) st) (hok : ok 0)
    (hid : ∀ i, i ≤ h.length → ∃ x, T i idl = some x)
    (ha : ∀ i, i ≤ h.length → T i a = some (.cells 22 [avH h o])) (hb : ∀ i, i ≤ h.length → T i b = some (.cells 3 [.int .i64 txn]))
    (hyes : ∀ i (hi : i < h.length), ok i → h[i].txn = txn → ∀ K' : AV → St → Prop, (∀ s, ok (i + 1) → St.le (T (i + 1)) s → K' (.bool true) s) → (∀ s, Stop s → K' (.bool false) s) →
      dround Tryz.prog idl [.int .i64 i, .agg (encEv h[i])] (T i idl) (T i) K')
    (hno : ∀ i (hi : i < h.length), ok i → h[i].txn ≠ txn → ok (i + 1) ∧ St.le (T (i + 1)) (T i))
    (hend : ∀ s, ok h.length → St.le (T h.length) s → K (.tup []) s) (hstop : ∀ s, Stop s → K (.tup []) s) :
    dcall Tryz.prog 124 [.yld idl, .box a 0, .box b 0] st K := by
  refine dcall_of_dwp Tryz.func124 rfl (by kernel_rfl) (by simp [Tryz.ntmps124]) ?_
  rw [Tryz.ntmps124]
  refine dwp_weaken (fun _ => .refl _) h0 ?_
  refine dwp_of_vk (by kernel_rfl) ?_
  have hca : ∀ i, i ≤ h.length → cellsAt (T i) a = some (22, [avH h o]) := fun i hi => cellsAt_of (ha i hi)
  have hcb : ∀ i, i ≤ h.length → cellsAt (T i) b = some (3, [.int .i64 txn]) := fun i hi => cellsAt_of (hb i hi)
  simp [hca]
  refine lk_loop (α := Nat) (fun i => Env.ofList [(0, .yld idl), (2, .box b 0), (6, avH h o), (7, .int .i64 h.length), (8, .int .i64 i)]) T (fun i => i ≤ h.length ∧ ok i) (fun i => h.length - i) 0 (by kernel_rfl) ⟨Nat.zero_le _, hok⟩ (Env.sub_ofList (by simp)) (.refl _) ?_
  rintro i ⟨hi, hoki⟩ R hR hX
  simp
  by_cases hlt : i < h.length
  · have hw : IntKind.i64.wrap (↑i + 1) = ↑i + 1 := wrap_i64 (by omega) (by omega)
    simp [hlt]
    refine newK_intro fun x hx => ?_
    have hxa : a ≠ x := fun e => by rw [e] at ha; rw [ha i hi] at hx; cases hx
    have hxb : b ≠ x := fun e => by rw [e] at hb; rw [hb i hi] at hx; cases hx
    by_cases ht : h[i].txn = txn
    · simp [ht, hcb i hi, cellsAt_upd_ne hxb]
      refine yieldK_intro ?_
      obtain ⟨obj, hobj⟩ := hid i hi
      refine dround_weaken (s := T i) (fun j y e => ?_) hobj ?_
      · have : j ≠ x := fun e' => by rw [e', hx] at e; cases e
        rw [upd_ne _ this, upd_ne _ this]; exact e
      rw [← ht]
      refine hyes i hlt hoki ht _ (fun s hs1 hs => ?_) (fun s hs => ?_)
      · simp [hw]
        refine hR (i + 1) _ _ ⟨hlt, hs1⟩ (by omega) (Env.sub_ofList (by simp [hw])) hs
      · simp
        refine hX .ret _ _ (by simp) ?_
        simp [Tryz.results124]
        exact fin (hstop s hs)
    · simp [ht, hcb i hi, cellsAt_upd_ne hxb, hw]
      refine hR (i + 1) _ _ ⟨hlt, (hno i hlt hoki ht).1⟩ (by omega) (Env.sub_ofList (by simp [hw])) fun j y e => ?_
      have e := (hno i hlt hoki ht).2 j y e
      have : j ≠ x := fun e' => by rw [e', hx] at e; cases e
      rw [upd_ne _ this, upd_ne _ this]; exact e
  · have : i = h.length := by omega
    subst this
    simp
    refine hX _ _ _ (by simp) ?_
    simp [Tryz.results124]
    exact fin (hend _ hoki (.refl _))
end Go.Proofs
