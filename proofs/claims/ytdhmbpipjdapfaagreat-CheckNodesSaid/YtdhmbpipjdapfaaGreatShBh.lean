import Derived.Test.YtdhmbpipjdapfaaGreatShBf
import Derived.IntWalk
import Derived.Test.YtdhmbpipjdapfaaGreatProg
set_option linter.unusedSimpArgs false
set_option linter.unusedVariables false

namespace Go.Proofs
open Go Go.Sh
set_option maxRecDepth 20000
@[simp] theorem ti3 : tiOf Tryz.prog 3 = some ⟨.int .i64, 1, 8, [.int .i64 0]⟩ := by kernel_rfl
@[simp] theorem ti4 : tiOf Tryz.prog 4 = some ⟨.bool, 1, 1, [.bool false]⟩ := by kernel_rfl
@[simp] theorem ti9 : tiOf Tryz.prog 9 = some ⟨.string, 1, 16, [.str ⟨#[]⟩]⟩ := by kernel_rfl
@[simp] theorem ti30 : tiOf Tryz.prog 30 = some ⟨.struct [(0, 3), (1, 3), (2, 9), (3, 9)], 4, 48, [.int .i64 0, .int .i64 0, .str ⟨#[]⟩, .str ⟨#[]⟩]⟩ := by kernel_rfl
@[simp] theorem ti22 : tiOf Tryz.prog 22 = some ⟨.slice 30, 1, 24, [.list 0 [] .clip]⟩ := by kernel_rfl
@[simp] theorem ti32 : tiOf Tryz.prog 32 = some ⟨.struct [(0, 3), (1, 3), (2, 3), (3, 4)], 4, 32, [.int .i64 0, .int .i64 0, .int .i64 0, .bool false]⟩ := by kernel_rfl
theorem mixed : Tryz.prog.follows .mixedOrders = true := by kernel_rfl
theorem wrap_i64 {x : Int} (h : -9223372036854775808 ≤ x) (h1 : x ≤ 9223372036854775807) : IntKind.i64.wrap x = x := IntWalk.i64_in x ⟨h, h1⟩

structure Ev where
  kind : Int
  txn : Int
  key : ByteArray
  val : ByteArray
  deriving Inhabited, DecidableEq
@[simp] def encEv (e : Ev) : List AV := [.int .i64 e.kind, .int .i64 e.txn, .str e.key, .str e.val]
abbrev avH (h : List Ev) (o : Sh.Own) : AV := .list 4 (h.map encEv) o

theorem ends_c (e : Ev) : PureC Tryz.prog 102 [.agg (encEv e)] (.bool (decide (e.kind = 4 ∨ e.kind = 5))) := by
  refine pure_of_dwp Tryz.func102 rfl (by kernel_rfl) (by simp [Tryz.ntmps102]) fun st K hK => ?_
  rw [Tryz.ntmps102]
  refine dwp_of_vk (by kernel_rfl) ?_
  simp
  refine newK_intro fun id hid => ?_
  by_cases h4 : e.kind = 4
  · simp [h4, Tryz.results102]
    exact fin' (.refl _) (le_upd hid _) (by simpa [h4] using hK)
  · simp [h4, Tryz.results102]
    exact fin' (.refl _) (le_upd hid _) (by simpa [h4] using hK)

theorem of_c (h : List Ev) (o : Sh.Own) (txn : Int) {st : St} {K : AV → St → Prop}
    (hK : ∀ a b, st a = none → st b = none → a ≠ b → K (.fn 124 [.box a 0, .box b 0]) ((st.upd a (.cells 22 [avH h o])).upd b (.cells 3 [.int .i64 txn]))) :
    dcall Tryz.prog 101 [avH h o, .int .i64 txn] st K := by
  refine dcall_of_dwp Tryz.func101 rfl (by kernel_rfl) (by simp [Tryz.ntmps101]) ?_
  rw [Tryz.ntmps101]
  refine dwp_of_vk (by kernel_rfl) ?_
  simp
  refine newK_intro fun a ha => ?_
  simp
  refine newK_intro fun b hb => ?_
  rw [upd_none_iff] at hb
  simp [Tryz.results101]
  exact fin (hK a b ha hb.2 (Ne.symm hb.1))
end Go.Proofs

namespace Go.Proofs
open Go Go.Sh
set_option maxRecDepth 20000
theorem of1_c (h : List Ev) (hl : h.length ≤ 140737488355328) (o : Sh.Own) (txn : Int) {idl a b : Nat} {st : St} {K : AV → St → Prop} (T : Nat → St) (ok : Nat → Prop) (Stop : St → Prop) (h0 : St.le (T 0) st) (hok : ok 0)
    (hid : ∀ i, i ≤ h.length → ∃ x, T i idl = some x)
    (ha : ∀ i, i ≤ h.length → T i a = some (.cells 22 [avH h o])) (hb : ∀ i, i ≤ h.length → T i b = some (.cells 3 [.int .i64 txn]))
    (hyes : ∀ i (hi : i < h.length), ok i → h[i].txn = txn → ∀ K' : AV → St → Prop, (∀ s, ok (i + 1) → St.le (T (i + 1)) s → K' (.bool true) s) → (∀ s, Stop s → K' (.bool false) s) →
      dround Tryz.prog idl [.int .i64 i, .agg (encEv h[i])] (T i idl) (T i) K')
    (hno : ∀ i (hi : i < h.length), ok i → h[i].txn ≠ txn → ok (i + 1) ∧ St.le (T (i + 1)) (T i))
    (hend : ∀ s, ok h.length → St.le (T h.length) s → K (.tup []) s) (hstop : ∀ s, Stop s → K (.tup []) s) :
    dcall Tryz.prog 124 [.yld idl, .box a 0, .box b 0] st K := by
  refine dcall_of_dwp Tryz.func124 rfl (by kernel_rfl) (by simp [Tryz.ntmps124]) ?_
  rw [Tryz.ntmps124]
  refine dwp_weaken (fun _ => .refl _) h0 ?_
  refine dwp_of_vk (by kernel_rfl) ?_
  have hca : ∀ i, i ≤ h.length → cellsAt (T i) a = some (22, [avH h o]) := fun i hi => cellsAt_of (ha i hi)
  have hcb : ∀ i, i ≤ h.length → cellsAt (T i) b = some (3, [.int .i64 txn]) := fun i hi => cellsAt_of (hb i hi)
  simp [hca]
  refine lk_loop (α := Nat) (fun i => Env.ofList [(0, .yld idl), (2, .box b 0), (6, avH h o), (7, .int .i64 h.length), (8, .int .i64 i)]) T (fun i => i ≤ h.length ∧ ok i) (fun i => h.length - i) 0 (by kernel_rfl) ⟨Nat.zero_le _, hok⟩ (Env.sub_ofList (by simp)) (.refl _) ?_
  rintro i ⟨hi, hoki⟩ R hR hX
  simp
  by_cases hlt : i < h.length
  · have hw : IntKind.i64.wrap (↑i + 1) = ↑i + 1 := wrap_i64 (by omega) (by omega)
    simp [hlt]
    refine newK_intro fun x hx => ?_
    have hxa : a ≠ x := fun e => by rw [e] at ha; rw [ha i hi] at hx; cases hx
    have hxb : b ≠ x := fun e => by rw [e] at hb; rw [hb i hi] at hx; cases hx
    by_cases ht : h[i].txn = txn
    · simp [ht, hcb i hi, cellsAt_upd_ne hxb]
      refine yieldK_intro ?_
      obtain ⟨obj, hobj⟩ := hid i hi
      refine dround_weaken (s := T i) (fun j y e => ?_) hobj ?_
      · have : j ≠ x := fun e' => by rw [e', hx] at e; cases e
        rw [upd_ne _ this, upd_ne _ this]; exact e
      rw [← ht]
      refine hyes i hlt hoki ht _ (fun s hs1 hs => ?_) (fun s hs => ?_)
      · simp [hw]
        refine hR (i + 1) _ _ ⟨hlt, hs1⟩ (by omega) (Env.sub_ofList (by simp [hw])) hs
      · simp
        refine hX .ret _ _ (by simp) ?_
        simp [Tryz.results124]
        exact fin (hstop s hs)
    · simp [ht, hcb i hi, cellsAt_upd_ne hxb, hw]
      refine hR (i + 1) _ _ ⟨hlt, (hno i hlt hoki ht).1⟩ (by omega) (Env.sub_ofList (by simp [hw])) fun j y e => ?_
      have e := (hno i hlt hoki ht).2 j y e
      have : j ≠ x := fun e' => by rw [e', hx] at e; cases e
      rw [upd_ne _ this, upd_ne _ this]; exact e
  · have : i = h.length := by omega
    subst this
    simp
    refine hX _ _ _ (by simp) ?_
    simp [Tryz.results124]
    exact fin (hend _ hoki (.refl _))
end Go.Proofs

namespace Go.Proofs
open Go Go.Sh
set_option maxRecDepth 20000
def anyB (h : List Ev) (txn : Int) : Bool := h.any fun e => decide (e.txn = txn)
def doneB (h : List Ev) (txn : Int) : Bool := h.any fun e => decide (e.txn = txn) && decide (e.kind = 4 ∨ e.kind = 5)
theorem take_succ' {α : Type} (h : List α) (i : Nat) (hi : i < h.length) : h.take (i + 1) = h.take i ++ [h[i]] := by
  rw [List.take_add_one, List.getElem?_eq_getElem hi]; rfl
theorem anyB_succ (h : List Ev) (i : Nat) (hi : i < h.length) (txn : Int) : anyB (h.take (i + 1)) txn = (anyB (h.take i) txn || decide (h[i].txn = txn)) := by
  rw [take_succ' h i hi]; simp only [anyB, List.any_append, List.any_cons, List.any_nil, Bool.or_false]
theorem doneB_succ (h : List Ev) (i : Nat) (hi : i < h.length) (txn : Int) : doneB (h.take (i + 1)) txn = (doneB (h.take i) txn || (decide (h[i].txn = txn) && decide (h[i].kind = 4 ∨ h[i].kind = 5))) := by
  rw [take_succ' h i hi]; simp only [doneB, List.any_append, List.any_cons, List.any_nil, Bool.or_false]
theorem over_c (h : List Ev) (hl : h.length ≤ 140737488355328) (o : Sh.Own) (txn : Int) : PureC Tryz.prog 71 [avH h o, .int .i64 txn] (.tup [.bool (anyB h txn), .bool (doneB h txn)]) := by
  refine pure_of_dwp Tryz.func71 rfl (by kernel_rfl) (by simp [Tryz.ntmps71]) fun st K hK => ?_
  rw [Tryz.ntmps71]
  refine dwp_of_vk (by kernel_rfl) ?_
  simp
  refine newK_intro fun p hp => ?_
  simp
  refine newK_intro fun q hq => ?_
  rw [upd_none_iff] at hq
  obtain ⟨hqp, hq⟩ := hq
  have hpq := Ne.symm hqp
  simp [hqp, hpq]
  refine callK_intro (of_c h o txn fun a b ha hb hab => ?_)
  simp only [upd_none_iff] at ha hb
  obtain ⟨haq, hap, -, -, ha⟩ := ha
  obtain ⟨hbq, hbp, -, -, hb⟩ := hb
  simp
  refine lk_rangeFunc (gf := 124) (caps := [.box a 0, .box b 0]) (by simp) fun l hl' => ?_
  simp only [upd_none_iff] at hl'
  obtain ⟨hlb, hla, hlq, hlp, -, -, hl'⟩ := hl'
  generalize hO : (AObj.loop _ _ _ _ _ none : AObj) = O
  refine of1_c h hl o txn (fun i => ((((st.upd p (.cells 4 [.bool (anyB (h.take i) txn)])).upd q (.cells 4 [.bool (doneB (h.take i) txn)])).upd a (.cells 22 [avH h o])).upd b (.cells 3 [.int .i64 txn])).upd l O) (fun _ => True) (fun _ => False) ?_ trivial (fun i hi => ⟨O, by simp⟩) ?_ ?_ ?_ ?_ ?_ (fun _ h => h.elim)
  · intro j y e
    simp only [upd_app] at e ⊢
    by_cases h1 : j = l <;> by_cases h2 : j = b <;> by_cases h3 : j = a <;> by_cases h4 : j = q <;> by_cases h5 : j = p <;> simp_all [anyB, doneB]
  · intro i hi
    simp [hab, Ne.symm hla]
  · intro i hi
    simp [Ne.symm hlb]
  · intro i hi _ ht K' hK1 hK2
    refine dround_intro' hO (by simp) rfl (by kernel_rfl) (by kernel_rfl) (by kernel_rfl) (by kernel_rfl) fun R hR _ => ?_
    simp
    refine newK_intro fun x hx => ?_
    have hql := Ne.symm hlq
    have hpl := Ne.symm hlp
    have hqa := Ne.symm haq
    have hqb := Ne.symm hbq
    have hpa := Ne.symm hap
    have hpb := Ne.symm hbp
    obtain ⟨hxl, hxp, hxq, hxa, hxb, hx0⟩ : l ≠ x ∧ p ≠ x ∧ q ≠ x ∧ a ≠ x ∧ b ≠ x ∧ st x = none := by
      simp only [upd_none_iff] at hx
      obtain ⟨h6, -, h5, h4, h1, h2, h3⟩ := hx
      exact ⟨Ne.symm h6, Ne.symm h2, Ne.symm h1, Ne.symm h4, Ne.symm h5, h3⟩
    simp [hxq, hxp, hql, hpl, hqa, hqb, hpa, hpb, hqp, hpq]
    have fin : ∀ s, s l = some .busy → s p = some (.cells 4 [.bool true]) → s q = some (.cells 4 [.bool (doneB (h.take (i + 1)) txn)]) → s a = some (.cells 22 [avH h o]) → s b = some (.cells 3 [.int .i64 txn]) → St.le st s → R none s := by
      intro s h0 h1 h2 h3 h4 h5
      refine hR _ h0 (hK1 _ trivial ?_)
      refine le_left (by simp) (le_left (by simp [Ne.symm hlb, h4]) (le_left (by simp [Ne.symm hla, h3]) (le_left (by simp [hql, h2]) (le_left (by simp [hpl, h1, anyB_succ h i hi, ht]) (le_right hl' h5)))))
    by_cases hd : doneB (h.take i) txn = true
    · simp [hd, hxq, hxp, hql, hpl, hqa, hqb, hpa, hpb, hqp, hpq]
      refine fin _ (by simp [hxl, hlq, hlp]) (by simp [hpq]) (by simp [doneB_succ h i hi, hd]) (by simp [haq, hap, hxa, hab, Ne.symm hla]) (by simp [hbq, hbp, hxb, Ne.symm hlb]) ?_
      repeat first | exact .refl _ | refine le_right (by assumption) ?_ | refine le_del (by assumption) ?_
    · simp only [Bool.not_eq_true] at hd
      simp [hd]
      refine callK_pure (ends_c h[i]) ?_
      simp [hd, hxq, hxp, hql, hpl, hqa, hqb, hpa, hpb, hqp, hpq]
      refine fin _ (by simp [hxl, hlq, hlp]) (by simp [hpq]) (by simp [doneB_succ h i hi, hd, ht]) (by simp [haq, hap, hxa, hab, Ne.symm hla]) (by simp [hbq, hbp, hxb, Ne.symm hlb]) ?_
      repeat first | exact .refl _ | refine le_right (by assumption) ?_ | refine le_del (by assumption) ?_
  · intro i hi _ ht
    refine ⟨trivial, fun j y e => ?_⟩
    simpa [anyB_succ h i hi, doneB_succ h i hi, ht] using e
  · intro s _ hs
    have hql := Ne.symm hlq
    have hpl := Ne.symm hlp
    have hqa := Ne.symm haq
    have hqb := Ne.symm hbq
    have hpa := Ne.symm hap
    have hpb := Ne.symm hbp
    have hp' := cellsAt_of (hs p (.cells 4 [.bool (anyB h txn)]) (by simp [hpl, hpa, hpb, hpq]))
    have hq' := cellsAt_of (hs q (.cells 4 [.bool (doneB h txn)]) (by simp [hql, hqa, hqb]))
    refine ⟨none, ?_, ?_⟩
    · rw [hO]
      exact hs l _ (by simp)
    simp
    refine lk_draw mixed [[], [], [], []] [] (by kernel_rfl) ?_
    simp [hpl, hql, hp', hq', Tryz.results71]
    refine fin' (.refl _) ?_ hK
    intro j y e
    have hjp : j ≠ p := by rintro rfl; rw [hp] at e; cases e
    have hjq : j ≠ q := by rintro rfl; rw [hq] at e; cases e
    have hja : j ≠ a := by rintro rfl; rw [ha] at e; cases e
    have hjb : j ≠ b := by rintro rfl; rw [hb] at e; cases e
    have hjl : j ≠ l := by rintro rfl; rw [hl'] at e; cases e
    simp [hjl]
    exact hs j y (by simp [hjp, hjq, hja, hjb, hjl, e])
end Go.Proofs

namespace Go.Proofs
open Go Go.Sh
set_option maxRecDepth 20000
/-- The place of the first one. -/
def idxOf {α : Type} (h : List α) (p : α → Bool) : Int := match h.findIdx? p with | some i => i | none => -1
theorem idxOf_hit {α : Type} {h : List α} {p : α → Bool} {i : Nat} (hi : i < h.length) (h1 : p h[i] = true) (h2 : ∀ j (hj : j < h.length), j < i → p h[j] = false) : idxOf h p = i := by
  unfold idxOf
  have : h.findIdx? p = some i := by
    rw [List.findIdx?_eq_some_iff_getElem]
    exact ⟨hi, h1, fun j hj => by simp [h2 j (by omega) hj]⟩
  rw [this]
theorem idxOf_miss {α : Type} {h : List α} {p : α → Bool} (h2 : ∀ j (hj : j < h.length), p h[j] = false) : idxOf h p = -1 := by
  unfold idxOf
  have : h.findIdx? p = none := by
    rw [List.findIdx?_eq_none_iff]
    intro x hx
    obtain ⟨j, hj, rfl⟩ := List.getElem_of_mem hx
    exact h2 j hj
  rw [this]
theorem idxOf_lt {α : Type} (h : List α) (p : α → Bool) : idxOf h p < h.length := by
  unfold idxOf
  split
  · rename_i i hi
    have := (List.findIdx?_eq_some_iff_getElem.1 hi).1
    omega
  · omega
theorem idxOf_ge {α : Type} (h : List α) (p : α → Bool) : -1 ≤ idxOf h p := by
  unfold idxOf
  split <;> omega

theorem keyed_c (k : Int) : PureC Tryz.prog 121 [.int .i64 k] (.bool (decide (k = 2 ∨ k = 3))) := by
  refine pure_of_dwp Tryz.func121 rfl (by kernel_rfl) (by simp [Tryz.ntmps121]) fun st K hK => ?_
  rw [Tryz.ntmps121]
  refine dwp_of_vk (by kernel_rfl) ?_
  simp
  by_cases h2 : k = 2
  · simp [h2, Tryz.results121]
    exact fin (by simpa [h2] using hK)
  · simp [h2, Tryz.results121]
    exact fin (by simpa [h2] using hK)

theorem idxEv_c (h : List Ev) (hl : h.length ≤ 140737488355328) (o : Sh.Own) (g : FuncId) (caps : List AV) (p : Ev → Bool) {st : St} {K : AV → St → Prop}
    (hp : ∀ e ∈ h, ∀ K' : AV → St → Prop, K' (.bool (p e)) st → dcall Tryz.prog g (.agg (encEv e) :: caps) st K') (hK : K (.int .i64 (idxOf h p)) st) :
    dcall Tryz.prog 122 [avH h o, .fn g caps] st K := by
  refine dcall_of_dwp Tryz.func122 rfl (by kernel_rfl) (by simp [Tryz.ntmps122]) ?_
  rw [Tryz.ntmps122]
  refine dwp_of_vk (by kernel_rfl) ?_
  simp
  refine lk_loop (α := Nat) (fun i => Env.ofList [(0, avH h o), (1, .fn g caps), (7, .int .i64 h.length), (8, .int .i64 i)]) (fun _ => st) (fun i => i ≤ h.length ∧ ∀ j (hj : j < h.length), j < i → p h[j] = false) (fun i => h.length - i) 0 (by kernel_rfl) ⟨Nat.zero_le _, fun _ _ hj => absurd hj (by omega)⟩ (Env.sub_ofList (by simp)) (.refl _) ?_
  rintro i ⟨hi, hno⟩ R hR hX
  simp
  by_cases hlt : i < h.length
  · have hw : IntKind.i64.wrap (↑i + 1) = ↑i + 1 := wrap_i64 (by omega) (by omega)
    simp [hlt]
    refine callK_intro (hp h[i] (List.getElem_mem hlt) _ ?_)
    cases hpi : p h[i]
    · simp
      refine hR (i + 1) _ _ ⟨hlt, fun j hj hji => ?_⟩ (by omega) (Env.sub_ofList (by simp [hw])) (.refl _)
      by_cases e : j = i
      · subst e; exact hpi
      · exact hno j hj (by omega)
    · simp
      refine hX .ret _ _ (by simp) ?_
      simp [Tryz.results122]
      exact fin (by rw [idxOf_hit hlt hpi hno] at hK; exact hK)
  · simp [hlt]
    refine hX _ _ _ (by simp) ?_
    simp [Tryz.results122]
    exact fin (by rw [idxOf_miss fun j hj => hno j hj (by omega)] at hK; exact hK)

theorem contEv_c (h : List Ev) (hl : h.length ≤ 140737488355328) (o : Sh.Own) (g : FuncId) (caps : List AV) (p : Ev → Bool) {st : St} {K : AV → St → Prop}
    (hp : ∀ e ∈ h, ∀ K' : AV → St → Prop, K' (.bool (p e)) st → dcall Tryz.prog g (.agg (encEv e) :: caps) st K') (hK : K (.bool (decide (0 ≤ idxOf h p))) st) :
    dcall Tryz.prog 99 [avH h o, .fn g caps] st K := by
  refine dcall_of_dwp Tryz.func99 rfl (by kernel_rfl) (by simp [Tryz.ntmps99]) ?_
  rw [Tryz.ntmps99]
  refine dwp_of_vk (by kernel_rfl) ?_
  simp
  refine callK_intro (idxEv_c h hl o g caps p hp ?_)
  simp [Tryz.results99]
  exact fin hK

theorem writer1_c (e : Ev) (key val : ByteArray) {a b : Nat} {st : St} (ha : st a = some (.cells 9 [.str key])) (hb : st b = some (.cells 9 [.str val])) {K : AV → St → Prop}
    (hK : K (.bool (decide (e.kind = 3 ∧ e.key = key ∧ e.val = val))) st) : dcall Tryz.prog 123 [.agg (encEv e), .box a 0, .box b 0] st K := by
  refine dcall_of_dwp Tryz.func123 rfl (by kernel_rfl) (by simp [Tryz.ntmps123]) ?_
  rw [Tryz.ntmps123]
  refine dwp_of_vk (by kernel_rfl) ?_
  simp
  refine newK_intro fun x hx => ?_
  have hax : a ≠ x := by rintro rfl; rw [ha] at hx; cases hx
  have hbx : b ≠ x := by rintro rfl; rw [hb] at hx; cases hx
  have hca := cellsAt_of ha
  have hcb := cellsAt_of hb
  by_cases h3 : e.kind = 3
  · by_cases hk : e.key = key
    · simp [h3, hk, hax, hbx, hca, hcb, Tryz.results123]
      exact fin' (.refl _) (le_upd hx _) (by simpa [h3, hk] using hK)
    · simp [h3, hk, hax, hbx, hca, hcb, Tryz.results123]
      exact fin' (.refl _) (le_upd hx _) (by simpa [h3, hk] using hK)
  · simp [h3, hax, hbx, hca, hcb, Tryz.results123]
    exact fin' (.refl _) (le_upd hx _) (by simpa [h3] using hK)

def writerOf (h : List Ev) (key val : ByteArray) : Int := idxOf h fun e => decide (e.kind = 3 ∧ e.key = key ∧ e.val = val)
theorem writer_c (h : List Ev) (hl : h.length ≤ 140737488355328) (o : Sh.Own) (key val : ByteArray) : PureC Tryz.prog 100 [avH h o, .str key, .str val] (.int .i64 (writerOf h key val)) := by
  refine pure_of_dwp Tryz.func100 rfl (by kernel_rfl) (by simp [Tryz.ntmps100]) fun st K hK => ?_
  rw [Tryz.ntmps100]
  refine dwp_of_vk (by kernel_rfl) ?_
  simp
  refine newK_intro fun a ha => ?_
  simp
  refine newK_intro fun b hb => ?_
  rw [upd_none_iff] at hb
  obtain ⟨hba, hb⟩ := hb
  simp
  refine callK_intro (idxEv_c h hl o 123 [.box a 0, .box b 0] (fun e => decide (e.kind = 3 ∧ e.key = key ∧ e.val = val)) (fun e _ K' hK' => writer1_c e key val (by simp [Ne.symm hba]) (by simp) hK') ?_)
  simp [Tryz.results100]
  exact fin' (.refl _) (le_right hb (le_right ha (.refl _))) (by simpa [writerOf] using hK)

theorem step1_c (e : Ev) (x : Ev) {a : Nat} {st : St} (ha : st a = some (.cells 30 (encEv x))) {K : AV → St → Prop}
    (hK : K (.bool (decide (e.kind = 3 ∧ e.val = x.val))) st) : dcall Tryz.prog 97 [.agg (encEv e), .box a 0] st K := by
  refine dcall_of_dwp Tryz.func97 rfl (by kernel_rfl) (by simp [Tryz.ntmps97]) ?_
  rw [Tryz.ntmps97]
  refine dwp_of_vk (by kernel_rfl) ?_
  simp
  refine newK_intro fun y hy => ?_
  have hay : a ≠ y := by rintro rfl; rw [ha] at hy; cases hy
  have hca := cellsAt_of ha
  by_cases h3 : e.kind = 3
  · simp [h3, hay, hca, Tryz.results97]
    exact fin' (.refl _) (le_upd hy _) (by simpa [h3] using hK)
  · simp [h3, hay, hca, Tryz.results97]
    exact fin' (.refl _) (le_upd hy _) (by simpa [h3] using hK)
end Go.Proofs

namespace Go.Proofs
open Go Go.Sh
set_option maxRecDepth 20000
@[simp] theorem ef30 : eqFlat Tryz.prog 30 = some [.int, .int, .str, .str] := by kernel_rfl
def mayEv (e : Ev) : Bool := decide (1 ≤ e.kind ∧ e.kind ≤ 5 ∧ 1 ≤ e.txn ∧ e.txn ≤ 32) &&
  if e.kind = 2 ∨ e.kind = 3 then decide (1 ≤ e.key.size ∧ e.key.size ≤ 32 ∧ e.val.size ≤ 32 ∧ (e.kind = 2 ∨ e.val ≠ ⟨#[]⟩)) else decide (e.key = ⟨#[]⟩ ∧ e.val = ⟨#[]⟩)
theorem may_c (e : Ev) : PureC Tryz.prog 98 [.agg (encEv e)] (.bool (mayEv e)) := by
  refine pure_of_dwp Tryz.func98 rfl (by kernel_rfl) (by simp [Tryz.ntmps98]) fun st K hK => ?_
  rw [Tryz.ntmps98]
  refine dwp_of_vk (by kernel_rfl) ?_
  simp
  refine newK_intro fun a ha => ?_
  simp
  refine newK_intro fun b hb => ?_
  rw [upd_none_iff] at hb
  obtain ⟨hba, hb⟩ := hb
  have hab := Ne.symm hba
  have fin : ∀ (v : Bool) (s : St), v = mayEv e → St.le st s → ∃ r', AV.sub r' (.bool v) ∧ ∃ x, St.le x s ∧ K r' x := by
    rintro v s rfl hl
    exact fin' (.refl _) hl hK
  simp [hba, hab]
  by_cases h1 : e.kind < 1
  · simp [h1, hab, hba, Tryz.results98]
    exact fin _ _ (by simp [mayEv]; omega) (by repeat first | exact .refl _ | refine le_right (by assumption) ?_)
  by_cases h2 : 5 < e.kind
  · simp [h1, h2, hab, hba, Tryz.results98]
    exact fin _ _ (by simp [mayEv]; omega) (by repeat first | exact .refl _ | refine le_right (by assumption) ?_)
  simp [h1, h2, hab, hba]
  by_cases h3 : e.txn < 1
  · simp [h3, hab, hba, Tryz.results98]
    exact fin _ _ (by simp [mayEv]; omega) (by repeat first | exact .refl _ | refine le_right (by assumption) ?_)
  by_cases h4 : 32 < e.txn
  · simp [h3, h4, hab, hba, Tryz.results98]
    exact fin _ _ (by simp [mayEv]; omega) (by repeat first | exact .refl _ | refine le_right (by assumption) ?_)
  simp [h3, h4, hab, hba]
  refine callK_pure (keyed_c e.kind) ?_
  have hm : mayEv e = if e.kind = 2 ∨ e.kind = 3 then decide (1 ≤ e.key.size ∧ e.key.size ≤ 32 ∧ e.val.size ≤ 32 ∧ (e.kind = 2 ∨ e.val ≠ ⟨#[]⟩)) else decide (e.key = ⟨#[]⟩ ∧ e.val = ⟨#[]⟩) := by
    have : decide (1 ≤ e.kind ∧ e.kind ≤ 5 ∧ 1 ≤ e.txn ∧ e.txn ≤ 32) = true := by simp; omega
    rw [mayEv, this, Bool.true_and]
  by_cases hk : e.kind = 2 ∨ e.kind = 3
  · simp [hk, hab, hba]
    by_cases g1 : (1 : Int) ≤ e.key.size
    · by_cases g2 : (e.key.size : Int) ≤ 32
      · by_cases g3 : (e.val.size : Int) ≤ 32
        · by_cases g4 : e.kind = 2
          · simp [g1, g2, g3, g4, hab, hba, Tryz.results98]
            refine fin _ _ ?_ (by repeat first | exact .refl _ | refine le_right (by assumption) ?_)
            rw [hm]; simp [g4]; omega
          · have g5 : e.kind = 3 := by omega
            simp [g1, g2, g3, g4, g5, hab, hba, Tryz.results98]
            refine fin _ _ ?_ (by repeat first | exact .refl _ | refine le_right (by assumption) ?_)
            rw [hm]; simp [g5, show 1 ≤ e.key.size by omega, show e.key.size ≤ 32 by omega, show e.val.size ≤ 32 by omega]
        · simp [g1, g2, g3, hab, hba, Tryz.results98]
          refine fin _ _ ?_ (by repeat first | exact .refl _ | refine le_right (by assumption) ?_)
          rw [hm]; simp [hk]; omega
      · simp [g1, g2, hab, hba, Tryz.results98]
        refine fin _ _ ?_ (by repeat first | exact .refl _ | refine le_right (by assumption) ?_)
        rw [hm]; simp [hk]; omega
    · simp [g1, hab, hba, Tryz.results98]
      refine fin _ _ ?_ (by repeat first | exact .refl _ | refine le_right (by assumption) ?_)
      rw [hm]; simp [hk]; omega
  · simp [hk, hab, hba, Tryz.results98]
    exact fin _ _ (by rw [hm]; simp [hk]) (by repeat first | exact .refl _ | refine le_right (by assumption) ?_)
end Go.Proofs

namespace Go.Proofs
open Go Go.Sh
set_option maxRecDepth 20000
@[simp] theorem ti39 : tiOf Tryz.prog 39 = some ⟨.int .i64, 1, 8, [.int .i64 0]⟩ := by kernel_rfl
def stepE (h : List Ev) (i : Nat) (x : Ev) : Int :=
  if mayEv x = false then 1
  else if x.kind = 1 ∧ anyB (h.take i) x.txn = true then 8
  else if x.kind = 1 then 0
  else if anyB (h.take i) x.txn = false then 7
  else if doneB (h.take i) x.txn = true then 9
  else if x.kind = 3 ∧ 0 ≤ idxOf (h.take i) (fun y => decide (y.kind = 3 ∧ y.val = x.val)) then 8
  else if x.kind = 2 ∧ x.val ≠ ⟨#[]⟩ ∧ writerOf h x.key x.val < 0 then 7
  else 0
theorem contEv_take (h : List Ev) (hl : h.length ≤ 140737488355328) (i : Nat) (o : Sh.Own) (g : FuncId) (caps : List AV) (p : Ev → Bool) {st : St} {K : AV → St → Prop}
    (hp : ∀ e ∈ h, ∀ K' : AV → St → Prop, K' (.bool (p e)) st → dcall Tryz.prog g (.agg (encEv e) :: caps) st K') (hK : K (.bool (decide (0 ≤ idxOf (h.take i) p))) st) :
    dcall Tryz.prog 99 [.list 4 ((h.map encEv).take i) o, .fn g caps] st K := by
  have := contEv_c (h.take i) (by rw [List.length_take]; omega) o g caps p (fun e he => hp e (List.mem_of_mem_take he)) hK
  rwa [avH, List.map_take] at this
theorem step_c (h : List Ev) (hl : h.length ≤ 140737488355328) (o : Sh.Own) (i : Nat) (hi : i < h.length) : PureC Tryz.prog 70 [avH h o, .int .i64 i] (.int .i64 (stepE h i h[i])) := by
  refine pure_of_dwp Tryz.func70 rfl (by kernel_rfl) (by simp [Tryz.ntmps70]) fun st K hK => ?_
  rw [Tryz.ntmps70]
  refine dwp_of_vk (by kernel_rfl) ?_
  simp [hi]
  refine newK_intro fun a ha => ?_
  simp
  refine lk_draw mixed [[], [], [], [], [], [], [], [], [], [], []] [(19, .tup [.bool (anyB (h.take i) h[i].txn), .bool (doneB (h.take i) h[i].txn)])] (by kernel_rfl) ?_
  have hle : i ≤ h.length := Nat.le_of_lt hi
  have hne : ¬ (i : Int) = h.length := by omega
  have hov := over_c (h.take i) (by simp; omega) .no h[i].txn
  rw [avH, List.map_take] at hov
  simp [hle, hne, hov]
  simp only [← List.map_take]
  have hst : ∀ (v : Int) (s : St), v = stepE h i h[i] → St.le st s → ∃ r', AV.sub r' (.int .i64 v) ∧ ∃ x, St.le x s ∧ K r' x := by
    rintro v s rfl hl
    exact fin' (.refl _) hl hK
  refine callK_pure (may_c h[i]) ?_
  have hle' : ∀ A B, St.le st (((st.upd a A)).upd a B) := fun A B => le_right ha (le_right ha (.refl _))
  unfold stepE at hst
  by_cases hm : mayEv h[i] = false
  · simp [hm, Tryz.results70]
    exact hst _ _ (by simp [hm]) (hle' _ _)
  simp only [Bool.not_eq_false] at hm
  simp [hm]
  by_cases h1 : h[i].kind = 1
  · simp [h1]
    by_cases ha1 : anyB (h.take i) h[i].txn = true
    · simp [ha1, Tryz.results70]
      exact hst _ _ (by simp [hm, h1, ha1]) (hle' _ _)
    · simp [ha1, h1, Tryz.results70]
      exact hst _ _ (by simp [hm, h1, ha1]) (hle' _ _)
  simp [h1]
  by_cases ha1 : anyB (h.take i) h[i].txn = false
  · simp [ha1, Tryz.results70]
    exact hst _ _ (by simp [hm, h1, ha1]) (hle' _ _)
  simp only [Bool.not_eq_false] at ha1
  simp [ha1]
  by_cases hd : doneB (h.take i) h[i].txn = true
  · simp [hd, Tryz.results70]
    exact hst _ _ (by simp [hm, h1, ha1, hd]) (hle' _ _)
  simp only [Bool.not_eq_true] at hd
  simp [hd]
  by_cases h3 : h[i].kind = 3
  · simp [h3, hle, hne]
    refine callK_intro (contEv_take h hl i .no 97 [.box a 0] (fun y => decide (y.kind = 3 ∧ y.val = h[i].val)) (fun e _ K' hK' => step1_c e h[i] (a := a) (by simp [h3]) hK') ?_)
    by_cases hx : 0 ≤ idxOf (h.take i) (fun y => decide (y.kind = 3 ∧ y.val = h[i].val))
    · simp only [hx, decide_true]
      simp [Tryz.results70]
      exact hst _ _ (by simp only [hm, h1, ha1, hd, h3, hx]; simp) (hle' _ _)
    · simp only [hx, decide_false]
      simp [h3, Tryz.results70]
      exact hst _ _ (by simp only [hm, h1, ha1, hd, h3, hx]; simp) (hle' _ _)
  · simp [h3]
    by_cases h2 : h[i].kind = 2
    · by_cases hv : h[i].val = ⟨#[]⟩
      · simp [h2, hv, Tryz.results70]
        exact hst _ _ (by simp [hm, h1, ha1, hd, h3, h2, hv]) (hle' _ _)
      · simp [h2, hv]
        refine callK_pure (writer_c h hl o _ _) ?_
        by_cases hw : writerOf h h[i].key h[i].val < 0
        · simp [hw, Tryz.results70]
          exact hst _ _ (by simp [hm, h1, ha1, hd, h3, h2, hv, hw]) (hle' _ _)
        · simp [hw, Tryz.results70]
          exact hst _ _ (by simp [hm, h1, ha1, hd, h3, h2, hv, hw]) (hle' _ _)
    · simp [h2, Tryz.results70]
      exact hst _ _ (by simp [hm, h1, ha1, hd, h3, h2]) (hle' _ _)
end Go.Proofs
