import Derived.Test.YtdhmbpipjdapfaaGreatShBh
set_option linter.unusedSimpArgs false
set_option linter.unusedVariables false

namespace Go.Proofs
open Go Go.Sh
set_option maxRecDepth 20000
def formedE (h : List Ev) : Int × Int :=
  if 256 < h.length then (0, 4)
  else match (List.range h.length).find? (fun i => decide (stepE h i (h.getD i default) ≠ 0)) with
    | some i => (i, stepE h i (h.getD i default))
    | none => (h.length, if h.all (fun x => doneB h x.txn) then 0 else 9)
theorem getD_lt {α : Type} (h : List α) (d : α) (i : Nat) (hi : i < h.length) : h.getD i d = h[i] := by simp [hi]
theorem find_range {n i : Nat} {p : Nat → Bool} (hi : i < n) (h1 : p i = true) (h2 : ∀ j, j < i → p j = false) : (List.range n).find? p = some i := by
  rw [List.find?_eq_some_iff_getElem]
  refine ⟨h1, i, by simpa using hi, by simp, fun j hj => ?_⟩
  simp [h2 j hj]
theorem formed_c (h : List Ev) (hl : h.length ≤ 140737488355328) (o : Sh.Own) : PureC Tryz.prog 38 [avH h o] (.tup [.int .i64 (formedE h).1, .int .i64 (formedE h).2]) := by
  refine pure_of_dwp Tryz.func38 rfl (by kernel_rfl) (by simp [Tryz.ntmps38]) fun st K hK => ?_
  rw [Tryz.ntmps38]
  refine dwp_of_vk (by kernel_rfl) ?_
  simp
  have hfin : ∀ (v e : Int) (s : St), (v, e) = formedE h → St.le st s → ∃ r', AV.sub r' (.tup [.int .i64 v, .int .i64 e]) ∧ ∃ x, St.le x s ∧ K r' x := by
    intro v e s hv hl
    rw [← hv] at hK
    exact fin' (.refl _) hl hK
  by_cases h256 : (256 : Int) < h.length
  · simp [h256, Tryz.results38]
    exact hfin _ _ _ (by unfold formedE; rw [if_pos (by omega)]) (.refl _)
  simp [h256]
  refine lk_loop (α := Nat) (fun i => Env.ofList [(0, avH h o), (14, .int .i64 h.length), (15, .int .i64 i)]) (fun _ => st) (fun i => i ≤ h.length ∧ ∀ j (hj : j < h.length), j < i → stepE h j h[j] = 0) (fun i => h.length - i) 0 (by kernel_rfl) ⟨Nat.zero_le _, fun _ _ hj => absurd hj (by omega)⟩ (Env.sub_ofList (by simp)) (.refl _) ?_
  rintro i ⟨hi, hno⟩ R hR hX
  simp
  by_cases hlt : i < h.length
  · have hw : IntKind.i64.wrap (↑i + 1) = ↑i + 1 := wrap_i64 (by omega) (by omega)
    simp [hlt]
    refine callK_pure (step_c h hl o i hlt) ?_
    by_cases he : stepE h i h[i] = 0
    · simp [he]
      refine hR (i + 1) _ _ ⟨hlt, fun j hj hji => ?_⟩ (by omega) (Env.sub_ofList (by simp [hw])) (.refl _)
      by_cases e : j = i
      · subst e; exact he
      · exact hno j hj (by omega)
    · simp [he]
      refine hX .ret _ _ (by simp) ?_
      simp [Tryz.results38]
      refine hfin _ _ _ ?_ (.refl _)
      unfold formedE
      rw [if_neg (by omega), find_range hlt (by simp [hlt, he]) fun j hj => ?_]
      · simp [hlt]
      · simp [show j < h.length by omega, hno j (by omega) hj]
  · simp [hlt]
    refine hX _ _ _ (by simp) ?_
    have hi' : i = h.length := by omega
    subst hi'
    have hnone : (List.range h.length).find? (fun i => decide (stepE h i (h.getD i default) ≠ 0)) = none := by
      rw [List.find?_eq_none]
      intro j hj
      have hj := List.mem_range.1 hj
      simp [hj, hno j hj hj]
    simp
    refine lk_loop (α := Nat) (fun i => Env.ofList [(0, avH h o), (26, avH h o), (27, .int .i64 h.length), (28, .int .i64 i)]) (fun _ => st) (fun i => i ≤ h.length ∧ ∀ j (hj : j < h.length), j < i → doneB h h[j].txn = true) (fun i => h.length - i) 0 (by kernel_rfl) ⟨Nat.zero_le _, fun _ _ hj => absurd hj (by omega)⟩ (Env.sub_ofList (by simp)) (.refl _) ?_
    rintro i ⟨hi, hno⟩ R hR hX
    simp
    by_cases hlt : i < h.length
    · have hw : IntKind.i64.wrap (↑i + 1) = ↑i + 1 := wrap_i64 (by omega) (by omega)
      simp [hlt]
      refine newK_intro fun x hx => ?_
      simp
      refine callK_pure (over_c h hl o _) ?_
      by_cases he : doneB h h[i].txn = true
      · simp [he]
        refine hR (i + 1) _ _ ⟨hlt, fun j hj hji => ?_⟩ (by omega) (Env.sub_ofList (by simp [hw])) (le_right hx (le_right hx (.refl _)))
        by_cases e : j = i
        · subst e; exact he
        · exact hno j hj (by omega)
      · simp [he]
        refine hX .ret _ _ (by simp) ?_
        simp [Tryz.results38]
        refine hfin _ _ _ ?_ (le_right hx (le_right hx (.refl _)))
        unfold formedE
        rw [if_neg (by omega), hnone]
        have : h.all (fun x => doneB h x.txn) = false := by
          rw [List.all_eq_false]
          exact ⟨h[i], List.getElem_mem hlt, he⟩
        simp [this]
    · simp [hlt]
      refine hX _ _ _ (by simp) ?_
      simp [Tryz.results38]
      refine hfin _ _ _ ?_ (.refl _)
      unfold formedE
      rw [if_neg (by omega), hnone]
      have : h.all (fun x => doneB h x.txn) = true := by
        rw [List.all_eq_true]
        intro x hx
        obtain ⟨j, hj, rfl⟩ := List.getElem_of_mem hx
        exact hno j hj (by omega)
      simp [this]
end Go.Proofs

namespace Go.Proofs
open Go Go.Sh
set_option maxRecDepth 20000
theorem resAV_cell {P : Program} {env : Env} {st : St} {x t : Nat} {i : TI} {id off : Nat} {tt : TypeId} {cs : List AV} (ht : tiOf P t = some i) (hx : env x = .box id off) (hs : st id = some (.cells tt cs))
    (hl : off + i.size ≤ cs.length ∧ (i.k.agg = false → i.size = 1)) : resAV P env st [.cell x t] = some (if i.k.agg then .agg ((cs.drop off).take i.size) else cs.getD off .undef) := by
  simp only [resAV, resAll, resOne, ht, hx, hs]
  rw [if_pos hl]
def endP (txn : Int) (e : Ev) : Bool := decide (e.txn = txn ∧ (e.kind = 4 ∨ e.kind = 5))
def endOf (h : List Ev) (txn : Int) : Int := idxOf h (endP txn)
structure Lf where
  txn : Int
  frm : Int
  to : Int
  com : Bool
  deriving Inhabited, DecidableEq
@[simp] def encLf (l : Lf) : List AV := [.int .i64 l.txn, .int .i64 l.frm, .int .i64 l.to, .bool l.com]
def lifeOf (h : List Ev) (txn frm : Int) : Lf := ⟨txn, frm, if endOf h txn < 0 then h.length else endOf h txn, decide (0 ≤ endOf h txn ∧ (h.getD (endOf h txn).toNat default).kind = 4)⟩
theorem life_c (h : List Ev) (hl : h.length ≤ 140737488355328) (o : Sh.Own) (f : Nat) (hf : f < h.length) : PureC Tryz.prog 112 [avH h o, .int .i64 f] (.agg (encLf (lifeOf h h[f].txn f))) := by
  refine pure_of_dwp Tryz.func112 rfl (by kernel_rfl) (by simp [Tryz.ntmps112]) fun st K hK => ?_
  rw [Tryz.ntmps112]
  refine dwp_of_vk (by kernel_rfl) ?_
  simp [hf]
  refine newK_intro fun r hr => ?_
  simp [hf]
  refine newK_intro fun q hq => ?_
  rw [upd_none_iff] at hq
  obtain ⟨hqr, hq⟩ := hq
  have hrq := Ne.symm hqr
  simp [hqr, hrq]
  refine callK_intro (of_c h o h[f].txn fun a b ha hb hab => ?_)
  simp only [upd_none_iff] at ha hb
  obtain ⟨haq, -, har, ha⟩ := ha
  obtain ⟨hbq, -, hbr, hb⟩ := hb
  simp
  refine lk_rangeFunc (gf := 124) (caps := [.box a 0, .box b 0]) (by simp) fun l hl' => ?_
  simp only [upd_none_iff] at hl'
  obtain ⟨hlb, hla, hlq, -, hlr, hl'⟩ := hl'
  have hql := Ne.symm hlq
  have hrl := Ne.symm hlr
  have hqa := Ne.symm haq
  have hqb := Ne.symm hbq
  have hra := Ne.symm har
  have hrb := Ne.symm hbr
  generalize hO : (AObj.loop _ _ _ _ _ none : AObj) = O
  refine of1_c h hl o h[f].txn (fun i => ((((st.upd r (.cells 32 [.int .i64 0, .int .i64 0, .int .i64 0, .bool false])).upd q (.cells 32 [.int .i64 h[f].txn, .int .i64 f, .int .i64 h.length, .bool false])).upd a (.cells 22 [avH h o])).upd b (.cells 3 [.int .i64 h[f].txn])).upd l O)
    (fun i => ∀ j (hj : j < h.length), j < i → endP h[f].txn h[j] = false) (fun s => s l = some (loopLeft (.exit 0) O) ∧ s q = some (.cells 32 (encLf (lifeOf h h[f].txn f))) ∧ s r = some (.cells 32 [.int .i64 0, .int .i64 0, .int .i64 0, .bool false]) ∧ St.le st s) ?_ (fun _ _ hj => absurd hj (by omega)) (fun i hi => ⟨O, by simp⟩) ?_ ?_ ?_ ?_ ?_ ?_
  · refine le_left (by simp) (le_left (by simp [Ne.symm hlb]) (le_left (by simp [hab, Ne.symm hla]) (le_left (by simp [hql, hqa, hqb]) (le_left (by simp [hrl, hra, hrb, hrq]) ?_))))
    repeat first | exact .refl _ | refine le_right (by assumption) ?_
  · intro i hi
    simp [hab, Ne.symm hla]
  · intro i hi
    simp [Ne.symm hlb]
  · intro i hi hno ht K' hK1 hK2
    refine dround_intro' hO (by simp) rfl (by kernel_rfl) (by kernel_rfl) (by kernel_rfl) (by kernel_rfl) fun R hR hR2 => ?_
    simp
    refine newK_intro fun x hx => ?_
    obtain ⟨hlx, hrx, hqx, hax, hbx, hx0⟩ : l ≠ x ∧ r ≠ x ∧ q ≠ x ∧ a ≠ x ∧ b ≠ x ∧ st x = none := by
      simp only [upd_none_iff] at hx
      obtain ⟨h6, -, h5, h4, h1, h2, h3⟩ := hx
      exact ⟨Ne.symm h6, Ne.symm h2, Ne.symm h1, Ne.symm h4, Ne.symm h5, h3⟩
    simp
    refine callK_pure (ends_c h[i]) ?_
    simp
    have hxq := Ne.symm hqx
    by_cases he : h[i].kind = 4 ∨ h[i].kind = 5
    · have hend : endOf h h[f].txn = i := idxOf_hit hi (by simp [endP, ht, he]) hno
      have hb : (decide (h[i].kind = 4) || decide (h[i].kind = 5)) = true := by simpa using he
      simp [hb]
      refine lk_draw mixed [[], [], [], [], [], [(3, .tmp 26)], [], [(3, .tmp 26), (3, .tmp 29)]] [] (by kernel_rfl) ?_
      simp [addrOf, apartAt, szOf, hxq, hqx, hql, hqa, hqb, hqr]
      refine hR2 (.exit 0) _ (by simp [hlx, Ne.symm hql, Ne.symm hrl]) (hK2 _ ⟨by simp, ?_, ?_, ?_⟩)
      · simp [hql, lifeOf, hend, hi]
        omega
      · simp [hrl, hrq, hrx, hra, hrb]
      · repeat first | exact .refl _ | refine le_right (by assumption) ?_ | refine le_del (by assumption) ?_
    · have hb : (decide (h[i].kind = 4) || decide (h[i].kind = 5)) = false := by simpa using he
      simp [hb]
      refine hR _ (by simp [hlx, Ne.symm hql, Ne.symm hrl]) (hK1 _ (fun j hj hji => ?_) ?_)
      · by_cases e : j = i
        · subst e; simp [endP, he]
        · exact hno j hj (by omega)
      refine le_left (by simp) (le_left (by simp [Ne.symm hlb, hbx]) (le_left (by simp [Ne.symm hla, hax, hab]) (le_left (by simp [hql, hqx, hqa, hqb]) (le_left (by simp [hrl, hrx, hra, hrb, hrq]) ?_))))
      repeat first | exact .refl _ | refine le_right (by assumption) ?_ | refine le_del (by assumption) ?_
  · intro i hi hno ht
    refine ⟨fun j hj hji => ?_, .refl _⟩
    by_cases e : j = i
    · subst e; simp [endP, ht]
    · exact hno j hj (by omega)
  · intro s hno hs
    have hend : endOf h h[f].txn = -1 := idxOf_miss fun j hj => hno j hj hj
    have hq' := hs q (.cells 32 (encLf (lifeOf h h[f].txn f))) (by simp [hql, hqa, hqb, hqr, lifeOf, hend])
    have hr' := hs r (.cells 32 [.int .i64 0, .int .i64 0, .int .i64 0, .bool false]) (by simp [hrl, hra, hrb, hrq])
    refine ⟨none, ?_, ?_⟩
    · rw [hO]; exact hs l _ (by simp)
    simp [hql, hrl, cellsAt_of hq', cellsAt_of hr']
    refine ⟨_, resAV_cell (id := r) (off := 0) (tt := 32) (cs := encLf (lifeOf h h[f].txn f)) ti32 (by simp) (by simp) (by simp [TK.agg]), _, .refl _, st, ?_, by simpa using hK⟩
    refine le_right hr (le_del hl' fun j y e => ?_)
    have hjr : j ≠ r := by rintro rfl; rw [hr] at e; cases e
    have hjq : j ≠ q := by rintro rfl; rw [hq] at e; cases e
    have hja : j ≠ a := by rintro rfl; rw [ha] at e; cases e
    have hjb : j ≠ b := by rintro rfl; rw [hb] at e; cases e
    have hjl : j ≠ l := by rintro rfl; rw [hl'] at e; cases e
    exact hs j y (by simp [hjr, hjq, hja, hjb, hjl, e])
  · rintro s ⟨h1, h2, h3, h4⟩
    refine ⟨some (.exit 0), ?_, ?_⟩
    · rw [h1, ← hO]; simp
    simp [hql, hrl, cellsAt_of h2, cellsAt_of h3]
    refine ⟨_, resAV_cell (id := r) (off := 0) (tt := 32) (cs := encLf (lifeOf h h[f].txn f)) ti32 (by simp) (by simp) (by simp [TK.agg]), _, .refl _, st, ?_, by simpa using hK⟩
    exact le_right hr (le_del hl' h4)
end Go.Proofs

namespace Go.Proofs
open Go Go.Sh
set_option maxRecDepth 20000
def lastP (txn : Int) (key : ByteArray) (e : Ev) : Bool := decide (e.txn = txn ∧ e.kind = 3 ∧ e.key = key)
def lastTo (h : List Ev) (txn : Int) (key : ByteArray) (before : Int) : Nat → Int
  | 0 => -1
  | n + 1 => if (n : Int) < before ∧ lastP txn key (h.getD n default) = true then n else lastTo h txn key before n
def lastOf (h : List Ev) (txn : Int) (key : ByteArray) (before : Int) : Int := lastTo h txn key before h.length
theorem last_c (h : List Ev) (hl : h.length ≤ 140737488355328) (o : Sh.Own) (txn : Int) (key : ByteArray) (before : Int) : PureC Tryz.prog 117 [avH h o, .int .i64 txn, .str key, .int .i64 before] (.int .i64 (lastOf h txn key before)) := by
  refine pure_of_dwp Tryz.func117 rfl (by kernel_rfl) (by simp [Tryz.ntmps117]) fun st K hK => ?_
  rw [Tryz.ntmps117]
  refine dwp_of_vk (by kernel_rfl) ?_
  simp
  refine newK_intro fun u hu => ?_
  simp
  refine newK_intro fun v hv => ?_
  rw [upd_none_iff] at hv
  obtain ⟨hvu, hv⟩ := hv
  have huv := Ne.symm hvu
  simp
  refine newK_intro fun q hq => ?_
  simp only [upd_none_iff] at hq
  obtain ⟨hqv, hqu, hq⟩ := hq
  have hvq := Ne.symm hqv
  have huq := Ne.symm hqu
  simp
  refine callK_intro (of_c h o txn fun a b ha hb hab => ?_)
  simp only [upd_none_iff] at ha hb
  obtain ⟨haq, -, hav, hau, ha⟩ := ha
  obtain ⟨hbq, -, hbv, hbu, hb⟩ := hb
  simp
  refine lk_rangeFunc (gf := 124) (caps := [.box a 0, .box b 0]) (by simp) fun l hl' => ?_
  simp only [upd_none_iff] at hl'
  obtain ⟨hlb, hla, hlq, -, hlv, hlu, hl'⟩ := hl'
  have hql := Ne.symm hlq
  have hvl := Ne.symm hlv
  have hul := Ne.symm hlu
  have hqa := Ne.symm haq
  have hqb := Ne.symm hbq
  have hva := Ne.symm hav
  have hvb := Ne.symm hbv
  have hua := Ne.symm hau
  have hub := Ne.symm hbu
  have hal := Ne.symm hla
  have hbl := Ne.symm hlb
  generalize hO : (AObj.loop _ _ _ _ _ none : AObj) = O
  refine of1_c h hl o txn (fun i => (((((st.upd u (.cells 9 [.str key])).upd v (.cells 3 [.int .i64 before])).upd q (.cells 3 [.int .i64 (lastTo h txn key before i)])).upd a (.cells 22 [avH h o])).upd b (.cells 3 [.int .i64 txn])).upd l O)
    (fun i => True) (fun s => False) ?_ trivial (fun i hi => ⟨O, by simp⟩) ?_ ?_ ?_ ?_ ?_ (fun _ h => h.elim)
  · refine le_left (by simp) (le_left (by simp [hbl]) (le_left (by simp [hab, hal]) (le_left (by simp [hql, hqa, hqb, lastTo]) (le_left (by simp [hvl, hva, hvb, hvq]) (le_left (by simp [hul, hua, hub, huq, huv]) ?_)))))
    repeat first | exact .refl _ | refine le_right (by assumption) ?_
  · intro i hi
    simp [hab, hal]
  · intro i hi
    simp [hbl]
  · intro i hi _ ht K' hK1 hK2
    refine dround_intro' hO (by simp) rfl (by kernel_rfl) (by kernel_rfl) (by kernel_rfl) (by kernel_rfl) fun R hR hR2 => ?_
    simp
    refine newK_intro fun x hx => ?_
    obtain ⟨hlx, hux, hvx, hqx, hax, hbx, hx0⟩ : l ≠ x ∧ u ≠ x ∧ v ≠ x ∧ q ≠ x ∧ a ≠ x ∧ b ≠ x ∧ st x = none := by
      simp only [upd_none_iff] at hx
      obtain ⟨h7, -, h5, h4, h1, h2, h3, h6⟩ := hx
      exact ⟨Ne.symm h7, Ne.symm h3, Ne.symm h2, Ne.symm h1, Ne.symm h4, Ne.symm h5, h6⟩
    have hlq2 := Ne.symm hql
    have hxu := Ne.symm hux
    have hxv := Ne.symm hvx
    have hxq := Ne.symm hqx
    simp [hvx, hvl, hva, hvb, hvq]
    have hdef : h.getD i default = h[i] := by simp [hi]
    have yes : ∀ s, s l = some .busy → lastP txn key h[i] = true → (i : Int) < before → s u = some (.cells 9 [.str key]) → s v = some (.cells 3 [.int .i64 before]) → s q = some (.cells 3 [.int .i64 i]) → s a = some (.cells 22 [avH h o]) → s b = some (.cells 3 [.int .i64 txn]) → St.le st s → R none s := by
      intro s p0 p1 p2 h1 h2 h3 h4 h5 h6
      refine hR _ p0 (hK1 _ trivial ?_)
      have : lastTo h txn key before (i + 1) = i := by simp only [lastTo, hdef]; rw [if_pos ⟨p2, p1⟩]
      rw [this]
      refine le_left (by simp) (le_left (by simp [hbl, h5]) (le_left (by simp [hal, h4]) (le_left (by simp [hql, h3]) (le_left (by simp [hvl, h2]) (le_left (by simp [hul, h1]) (le_right hl' h6))))))
    have no : ∀ s, s l = some .busy → ¬ ((i : Int) < before ∧ lastP txn key h[i] = true) → s u = some (.cells 9 [.str key]) → s v = some (.cells 3 [.int .i64 before]) → s q = some (.cells 3 [.int .i64 (lastTo h txn key before i)]) → s a = some (.cells 22 [avH h o]) → s b = some (.cells 3 [.int .i64 txn]) → St.le st s → R none s := by
      intro s p0 p1 h1 h2 h3 h4 h5 h6
      refine hR _ p0 (hK1 _ trivial ?_)
      have : lastTo h txn key before (i + 1) = lastTo h txn key before i := by simp only [lastTo, hdef]; rw [if_neg p1]
      rw [this]
      refine le_left (by simp) (le_left (by simp [hbl, h5]) (le_left (by simp [hal, h4]) (le_left (by simp [hql, h3]) (le_left (by simp [hvl, h2]) (le_left (by simp [hul, h1]) (le_right hl' h6))))))
    by_cases p1 : (i : Int) < before
    · by_cases p2 : h[i].kind = 3
      · by_cases p3 : h[i].key = key
        · simp [p1, p2, p3, hux, hul, hua, hub, huq, huv, hqx, hql, hqa, hqb, hqv, hqu]
          refine yes _ (by simp [hlx, hlq2]) (by simp [lastP, ht, p2, p3]) p1 ?_ ?_ ?_ ?_ ?_ ?_
          all_goals first | (simp [hux, hul, hua, hub, huq, huv, hvx, hvl, hva, hvb, hvq, hvu, hqx, hql, hqa, hqb, hqv, hqu, hax, hal, haq, hav, hau, hab, hbx, hbl, hbq, hbv, hbu]; done) | (repeat first | exact .refl _ | refine le_right (by assumption) ?_ | refine le_del (by assumption) ?_)
        · simp [p1, p2, p3, hux, hul, hua, hub, huq, huv, hqx, hql, hqa, hqb, hqv, hqu]
          refine no _ (by simp [hlx, hlq2]) (by simp [lastP, ht, p2, p3]) ?_ ?_ ?_ ?_ ?_ ?_
          all_goals first | (simp [hux, hul, hua, hub, huq, huv, hvx, hvl, hva, hvb, hvq, hvu, hqx, hql, hqa, hqb, hqv, hqu, hax, hal, haq, hav, hau, hab, hbx, hbl, hbq, hbv, hbu]; done) | (repeat first | exact .refl _ | refine le_right (by assumption) ?_ | refine le_del (by assumption) ?_)
      · simp [p1, p2, hux, hul, hua, hub, huq, huv, hqx, hql, hqa, hqb, hqv, hqu]
        refine no _ (by simp [hlx, hlq2]) (by simp [lastP, ht, p2]) ?_ ?_ ?_ ?_ ?_ ?_
        all_goals first | (simp [hux, hul, hua, hub, huq, huv, hvx, hvl, hva, hvb, hvq, hvu, hqx, hql, hqa, hqb, hqv, hqu, hax, hal, haq, hav, hau, hab, hbx, hbl, hbq, hbv, hbu]; done) | (repeat first | exact .refl _ | refine le_right (by assumption) ?_ | refine le_del (by assumption) ?_)
    · simp [p1, hux, hul, hua, hub, huq, huv, hqx, hql, hqa, hqb, hqv, hqu]
      refine no _ (by simp [hlx, hlq2]) (by simp [p1]) ?_ ?_ ?_ ?_ ?_ ?_
      all_goals first | (simp [hux, hul, hua, hub, huq, huv, hvx, hvl, hva, hvb, hvq, hvu, hqx, hql, hqa, hqb, hqv, hqu, hax, hal, haq, hav, hau, hab, hbx, hbl, hbq, hbv, hbu]; done) | (repeat first | exact .refl _ | refine le_right (by assumption) ?_ | refine le_del (by assumption) ?_)
  · intro i hi _ ht
    have hdef : h.getD i default = h[i] := by simp [hi]
    have : lastTo h txn key before (i + 1) = lastTo h txn key before i := by simp only [lastTo, hdef]; rw [if_neg (by simp [lastP, ht])]
    rw [this]
    exact ⟨trivial, .refl _⟩
  · intro s _ hs
    have hq' := hs q (.cells 3 [.int .i64 (lastOf h txn key before)]) (by simp [hql, hqa, hqb, hqv, hqu, lastOf])
    refine ⟨none, ?_, ?_⟩
    · rw [hO]; exact hs l _ (by simp)
    simp [hql, cellsAt_of hq', Tryz.results117]
    refine fin' (.refl _) ?_ hK
    refine le_del hl' fun j y e => ?_
    have hju : j ≠ u := by rintro rfl; rw [hu] at e; cases e
    have hjv : j ≠ v := by rintro rfl; rw [hv] at e; cases e
    have hjq : j ≠ q := by rintro rfl; rw [hq] at e; cases e
    have hja : j ≠ a := by rintro rfl; rw [ha] at e; cases e
    have hjb : j ≠ b := by rintro rfl; rw [hb] at e; cases e
    have hjl : j ≠ l := by rintro rfl; rw [hl'] at e; cases e
    exact hs j y (by simp [hju, hjv, hjq, hja, hjb, hjl, e])
end Go.Proofs

namespace Go.Proofs
open Go Go.Sh
set_option maxRecDepth 20000
@[simp] theorem ti35 : tiOf Tryz.prog 35 = some ⟨.struct [(0, 3), (1, 3), (2, 3)], 3, 24, [.int .i64 0, .int .i64 0, .int .i64 0]⟩ := by kernel_rfl
theorem resAV_cell2 {P : Program} {env : Env} {st : St} {x t u : Nat} {i : TI} {id off : Nat} {tt : TypeId} {cs : List AV} (ht : tiOf P t = some i) (hx : env x = .box id off) (hs : st id = some (.cells tt cs))
    (hl : off + i.size ≤ cs.length ∧ (i.k.agg = false → i.size = 1)) : resAV P env st [.cell x t, .tmp u] = some (.tup [if i.k.agg then .agg ((cs.drop off).take i.size) else cs.getD off .undef, env u]) := by
  simp only [resAV, resAll, resOne, ht, hx, hs]
  rw [if_pos hl]
def hasTxn (txn : Int) (e : Ev) : Bool := decide (e.txn = txn)
def findOf (h : List Ev) (txn : Int) : Lf × Bool := if idxOf h (hasTxn txn) < 0 then (⟨0, 0, 0, false⟩, false) else (lifeOf h txn (idxOf h (hasTxn txn)), true)
theorem find1_c (e : Ev) (txn : Int) {a : Nat} {st : St} (ha : st a = some (.cells 3 [.int .i64 txn])) {K : AV → St → Prop}
    (hK : K (.bool (hasTxn txn e)) st) : dcall Tryz.prog 143 [.agg (encEv e), .box a 0] st K := by
  refine dcall_of_dwp Tryz.func143 rfl (by kernel_rfl) (by simp [Tryz.ntmps143]) ?_
  rw [Tryz.ntmps143]
  refine dwp_of_vk (by kernel_rfl) ?_
  simp
  refine newK_intro fun x hx => ?_
  have hax : a ≠ x := by rintro rfl; rw [ha] at hx; cases hx
  have hca := cellsAt_of ha
  simp [hax, hca, Tryz.results143]
  exact fin' (.refl _) (le_upd hx _) (by simpa [hasTxn] using hK)
theorem idxOf_nat {α : Type} {h : List α} {p : α → Bool} (hn : ¬ idxOf h p < 0) : ∃ n, ∃ hn : n < h.length, idxOf h p = n ∧ p h[n] = true := by
  unfold idxOf at *
  cases hf : h.findIdx? p with
  | none => rw [hf] at hn; simp at hn
  | some n =>
    obtain ⟨h1, h2, h3⟩ := List.findIdx?_eq_some_iff_getElem.1 hf
    exact ⟨n, h1, by simp, h2⟩
theorem find_c (h : List Ev) (hl : h.length ≤ 140737488355328) (o : Sh.Own) (txn : Int) : PureC Tryz.prog 119 [avH h o, .int .i64 txn] (.tup [.agg (encLf (findOf h txn).1), .bool (findOf h txn).2]) := by
  refine pure_of_dwp Tryz.func119 rfl (by kernel_rfl) (by simp [Tryz.ntmps119]) fun st K hK => ?_
  rw [Tryz.ntmps119]
  refine dwp_of_vk (by kernel_rfl) ?_
  simp
  refine newK_intro fun a ha => ?_
  simp
  refine newK_intro fun r hr => ?_
  rw [upd_none_iff] at hr
  obtain ⟨hra, hr⟩ := hr
  have har := Ne.symm hra
  simp
  refine callK_intro (idxEv_c h hl o 143 [.box a 0] (hasTxn txn) (fun e _ K' hK' => find1_c e txn (by simp [har]) hK') ?_)
  simp
  by_cases hn : idxOf h (hasTxn txn) < 0
  · simp [hn, har, hra]
    refine ⟨_, resAV_cell2 (id := r) (off := 0) (tt := 32) (cs := encLf ⟨0, 0, 0, false⟩) ti32 (by simp) (by simp) (by simp [TK.agg]), _, .refl _, st, ?_, by simpa [findOf, hn] using hK⟩
    repeat first | exact .refl _ | refine le_right (by assumption) ?_
  · obtain ⟨n, hnl, hne, hp⟩ := idxOf_nat hn
    have htx : h[n].txn = txn := by simpa [hasTxn] using hp
    have hf : findOf h txn = (lifeOf h h[n].txn n, true) := by unfold findOf; rw [if_neg hn, hne, htx]
    rw [hf] at hK
    rw [hne]
    simp [show ¬ ((n : Int) < 0) by omega]
    refine callK_pure (life_c h hl o n hnl) ?_
    simp [har, hra]
    refine ⟨_, resAV_cell2 (id := r) (off := 0) (tt := 32) (cs := encLf (lifeOf h h[n].txn n)) ti32 (by simp) (by simp) (by simp [TK.agg]), _, .refl _, st, ?_, by simpa using hK⟩
    repeat first | exact .refl _ | refine le_right (by assumption) ?_

def countsE (h : List Ev) (i : Int) : Bool := decide (0 ≤ i ∧ i < h.length) && decide ((h.getD i.toNat default).kind = 2) &&
  ((findOf h (h.getD i.toNat default).txn).2 && (findOf h (h.getD i.toNat default).txn).1.com && decide (i < (findOf h (h.getD i.toNat default).txn).1.to))
theorem counts_c (h : List Ev) (hl : h.length ≤ 140737488355328) (o : Sh.Own) (i : Int) : PureC Tryz.prog 116 [avH h o, .int .i64 i] (.bool (countsE h i)) := by
  refine pure_of_dwp Tryz.func116 rfl (by kernel_rfl) (by simp [Tryz.ntmps116]) fun st K hK => ?_
  rw [Tryz.ntmps116]
  refine dwp_of_vk (by kernel_rfl) ?_
  have hst : ∀ (v : Bool) (s : St), v = countsE h i → St.le st s → ∃ r', AV.sub r' (.bool v) ∧ ∃ x, St.le x s ∧ K r' x := by
    rintro v s rfl hl
    exact fin' (.refl _) hl hK
  simp
  by_cases h1 : i < 0
  · simp [h1, Tryz.results116]
    exact hst _ _ (by have : ¬ (0 ≤ i ∧ i < h.length) := by omega
                      simp [countsE, this]) (.refl _)
  by_cases h2 : (h.length : Int) ≤ i
  · simp [h1, h2, Tryz.results116]
    exact hst _ _ (by have : ¬ (0 ≤ i ∧ i < h.length) := by omega
                      simp [countsE, this]) (.refl _)
  obtain ⟨n, rfl⟩ : ∃ n : Nat, i = n := ⟨i.toNat, by omega⟩
  have hn : n < h.length := by omega
  have hdef : h.getD n default = h[n] := by simp [hn]
  by_cases h3 : h[n].kind = 2
  · have hc : countsE h n = ((findOf h h[n].txn).2 && (findOf h h[n].txn).1.com && decide ((n : Int) < (findOf h h[n].txn).1.to)) := by
      unfold countsE
      rw [Int.toNat_natCast, hdef]
      simp [h3, hn]
    rw [hc] at hst
    simp [h1, h2, hn, h3]
    refine callK_pure (find_c h hl o h[n].txn) ?_
    simp
    refine newK_intro fun x hx => ?_
    simp
    cases hf2 : (findOf h h[n].txn).2
    · simp [hf2, Tryz.results116]
      exact hst _ _ (by simp [hf2]) (le_right hx (le_right hx (.refl _)))
    · cases hf1 : (findOf h h[n].txn).1.com
      · simp [hf2, hf1, Tryz.results116]
        exact hst _ _ (by simp [hf2, hf1]) (le_right hx (le_right hx (.refl _)))
      · simp [hf2, hf1, Tryz.results116]
        exact hst _ _ (by simp [hf2, hf1]) (le_right hx (le_right hx (.refl _)))
  · simp [h1, h2, hn, h3, Tryz.results116]
    exact hst _ _ (by simp [countsE, hn, h3]) (.refl _)

structure Bd where
  kind : Int
  i : Int
  j : Int
  deriving Inhabited, DecidableEq
@[simp] def encBd (b : Bd) : List AV := [.int .i64 b.kind, .int .i64 b.i, .int .i64 b.j]
def ownE (h : List Ev) (i k : Nat) : Bd := if (h.getD i default).val ≠ (h.getD k default).val then ⟨3, i, k⟩ else ⟨0, 0, 0⟩
theorem own_c (h : List Ev) (o : Sh.Own) (i k : Nat) (hi : i < h.length) (hk : k < h.length) : PureC Tryz.prog 118 [avH h o, .int .i64 i, .int .i64 k] (.agg (encBd (ownE h i k))) := by
  refine pure_of_dwp Tryz.func118 rfl (by kernel_rfl) (by simp [Tryz.ntmps118]) fun st K hK => ?_
  rw [Tryz.ntmps118]
  refine dwp_of_vk (by kernel_rfl) ?_
  simp
  refine newK_intro fun r hr => ?_
  simp
  refine lk_draw mixed [[], [], [], [], [], [], [], [], [], [], []] [] (by kernel_rfl) ?_
  simp [hi, hk]
  have hdi : h.getD i default = h[i] := by simp [hi]
  have hdk : h.getD k default = h[k] := by simp [hk]
  by_cases he : h[i].val = h[k].val
  · simp [he]
    refine ⟨_, resAV_cell (id := r) (off := 0) (tt := 35) (cs := encBd ⟨0, 0, 0⟩) ti35 (by simp) (by simp) (by simp [TK.agg]), _, .refl _, st, ?_, by simpa [ownE, hi, hk, he] using hK⟩
    repeat first | exact .refl _ | refine le_right (by assumption) ?_
  · simp [he]
    refine ⟨_, resAV_cell (id := r) (off := 0) (tt := 35) (cs := encBd ⟨3, i, k⟩) ti35 (by simp) (by simp) (by simp [TK.agg]), _, .refl _, st, ?_, by simpa [ownE, hi, hk, he] using hK⟩
    repeat first | exact .refl _ | refine le_right (by assumption) ?_
end Go.Proofs

namespace Go.Proofs
open Go Go.Sh
set_option maxRecDepth 20000
theorem lastTo_nat {h : List Ev} {txn : Int} {key : ByteArray} {b : Int} : ∀ {n : Nat}, 0 ≤ lastTo h txn key b n → ∃ k : Nat, lastTo h txn key b n = k ∧ k < n ∧ (k : Int) < b ∧ lastP txn key (h.getD k default) = true
  | 0, h => by simp [lastTo] at h
  | n + 1, hk => by
    simp only [lastTo] at hk ⊢
    by_cases hc : (n : Int) < b ∧ lastP txn key (h.getD n default) = true
    · rw [if_pos hc]; exact ⟨n, rfl, by omega, hc.1, hc.2⟩
    · rw [if_neg hc] at hk ⊢
      obtain ⟨k, h1, h2, h3⟩ := lastTo_nat hk
      exact ⟨k, h1, by omega, h3⟩
def atE (h : List Ev) (i : Int) : Bd :=
  if countsE h i = false then ⟨0, 0, 0⟩
  else if 0 ≤ lastOf h (h.getD i.toNat default).txn (h.getD i.toNat default).key i then ownE h i.toNat (lastOf h (h.getD i.toNat default).txn (h.getD i.toNat default).key i).toNat
  else if (h.getD i.toNat default).val = ⟨#[]⟩ ∨ writerOf h (h.getD i.toNat default).key (h.getD i.toNat default).val < 0 then ⟨0, 0, 0⟩
  else if (h.getD (writerOf h (h.getD i.toNat default).key (h.getD i.toNat default).val).toNat default).txn = (h.getD i.toNat default).txn then ⟨4, i, writerOf h (h.getD i.toNat default).key (h.getD i.toNat default).val⟩
  else if (findOf h (h.getD (writerOf h (h.getD i.toNat default).key (h.getD i.toNat default).val).toNat default).txn).1.com = false then ⟨1, i, writerOf h (h.getD i.toNat default).key (h.getD i.toNat default).val⟩
  else if lastOf h (findOf h (h.getD (writerOf h (h.getD i.toNat default).key (h.getD i.toNat default).val).toNat default).txn).1.txn (h.getD i.toNat default).key (findOf h (h.getD (writerOf h (h.getD i.toNat default).key (h.getD i.toNat default).val).toNat default).txn).1.to ≠ writerOf h (h.getD i.toNat default).key (h.getD i.toNat default).val then
    ⟨2, i, lastOf h (findOf h (h.getD (writerOf h (h.getD i.toNat default).key (h.getD i.toNat default).val).toNat default).txn).1.txn (h.getD i.toNat default).key (findOf h (h.getD (writerOf h (h.getD i.toNat default).key (h.getD i.toNat default).val).toNat default).txn).1.to⟩
  else ⟨0, 0, 0⟩
theorem at_c (h : List Ev) (hl : h.length ≤ 140737488355328) (o : Sh.Own) (i : Int) : PureC Tryz.prog 86 [avH h o, .int .i64 i] (.agg (encBd (atE h i))) := by
  refine pure_of_dwp Tryz.func86 rfl (by kernel_rfl) (by simp [Tryz.ntmps86]) fun st K hK => ?_
  rw [Tryz.ntmps86]
  refine dwp_of_vk (by kernel_rfl) ?_
  simp
  refine newK_intro fun r hr => ?_
  simp
  refine callK_pure (counts_c h hl o i) ?_
  have hend : ∀ (b : Bd) (s : St) (env : Env), b = atE h i → env 4 = .box r 0 → s r = some (.cells 35 (encBd b)) → St.le st s → ∃ r_1, resAV Tryz.prog env s [.cell 4 35] = some r_1 ∧ ∃ r', AV.sub r' r_1 ∧ ∃ st', St.le st' s ∧ K r' st' := by
    rintro b s env rfl he hs hle
    exact ⟨_, resAV_cell (id := r) (off := 0) (tt := 35) (cs := encBd (atE h i)) ti35 he hs (by simp [TK.agg]), _, .refl _, st, hle, by simpa using hK⟩
  by_cases hc : countsE h i = false
  · simp [hc]
    refine hend ⟨0, 0, 0⟩ _ _ (by rw [atE, if_pos hc]) (by simp) (by simp) ?_
    repeat first | exact .refl _ | refine le_right (by assumption) ?_
  simp only [Bool.not_eq_false] at hc
  have hin : 0 ≤ i ∧ i < h.length := by
    simp only [countsE, Bool.and_eq_true, decide_eq_true_eq] at hc
    exact hc.1.1
  obtain ⟨n, rfl⟩ : ∃ n : Nat, i = n := ⟨i.toNat, by omega⟩
  have hn : n < h.length := by omega
  have hdef : h.getD n default = h[n] := by simp [hn]
  have hat : atE h n = if 0 ≤ lastOf h h[n].txn h[n].key n then ownE h n (lastOf h h[n].txn h[n].key n).toNat
      else if h[n].val = ⟨#[]⟩ ∨ writerOf h h[n].key h[n].val < 0 then ⟨0, 0, 0⟩
      else if (h.getD (writerOf h h[n].key h[n].val).toNat default).txn = h[n].txn then ⟨4, n, writerOf h h[n].key h[n].val⟩
      else if (findOf h (h.getD (writerOf h h[n].key h[n].val).toNat default).txn).1.com = false then ⟨1, n, writerOf h h[n].key h[n].val⟩
      else if lastOf h (findOf h (h.getD (writerOf h h[n].key h[n].val).toNat default).txn).1.txn h[n].key (findOf h (h.getD (writerOf h h[n].key h[n].val).toNat default).txn).1.to ≠ writerOf h h[n].key h[n].val then
        ⟨2, n, lastOf h (findOf h (h.getD (writerOf h h[n].key h[n].val).toNat default).txn).1.txn h[n].key (findOf h (h.getD (writerOf h h[n].key h[n].val).toNat default).txn).1.to⟩
      else ⟨0, 0, 0⟩ := by
    unfold atE
    rw [if_neg (by rw [hc]; simp), Int.toNat_natCast, hdef]
  rw [hat] at hend
  simp [hc, hn]
  refine newK_intro fun x hx => ?_
  rw [upd_none_iff] at hx
  obtain ⟨hxr, hx⟩ := hx
  have hrx := Ne.symm hxr
  simp
  refine callK_pure (last_c h hl o h[n].txn h[n].key n) ?_
  by_cases hk : 0 ≤ lastOf h h[n].txn h[n].key n
  · obtain ⟨k, hk1, hk2, -⟩ := lastTo_nat (show 0 ≤ lastTo h h[n].txn h[n].key n h.length from hk)
    have hk1 : lastOf h h[n].txn h[n].key n = k := hk1
    rw [if_pos hk, hk1, Int.toNat_natCast] at hend
    simp [hk1]
    refine callK_pure (own_c h o n k hn hk2) ?_
    simp [hrx, hxr]
    refine hend (ownE h n k) _ _ rfl (by simp) (by simp [hrx]) ?_
    repeat first | exact .refl _ | refine le_right (by assumption) ?_
  rw [if_neg hk] at hend
  simp [hk]
  refine callK_pure (writer_c h hl o h[n].key h[n].val) ?_
  simp
  by_cases hv : h[n].val = ⟨#[]⟩
  · simp [hv, hrx, hxr]
    refine hend ⟨0, 0, 0⟩ _ _ (by rw [if_pos (.inl hv)]) (by simp) (by simp [hrx]) ?_
    repeat first | exact .refl _ | refine le_right (by assumption) ?_
  simp [hv]
  by_cases hw : writerOf h h[n].key h[n].val < 0
  · simp [hw, hrx, hxr]
    refine hend ⟨0, 0, 0⟩ _ _ (by rw [if_pos (.inr hw)]) (by simp) (by simp [hrx]) ?_
    repeat first | exact .refl _ | refine le_right (by assumption) ?_
  rw [if_neg (by simp [hv, hw])] at hend
  simp [hw]
  obtain ⟨w, hwl, hwe, -⟩ := idxOf_nat hw
  have hwe : writerOf h h[n].key h[n].val = w := hwe
  have hdw : h.getD w default = h[w] := by simp [hwl]
  rw [hwe, Int.toNat_natCast, hdw] at hend
  rw [hwe]
  refine lk_draw mixed [[], [], [], [], [], [], [], [], []] [] (by kernel_rfl) ?_
  simp [hwl]
  by_cases ht : h[w].txn = h[n].txn
  · simp [ht, hrx, hxr]
    refine hend ⟨4, n, w⟩ _ _ (by rw [if_pos ht]) (by simp) (by simp [hrx]) ?_
    repeat first | exact .refl _ | refine le_right (by assumption) ?_
  rw [if_neg ht] at hend
  simp [ht, hwl]
  refine callK_pure (find_c h hl o h[w].txn) ?_
  simp
  refine newK_intro fun y hy => ?_
  simp only [upd_none_iff] at hy
  obtain ⟨hyx, -, hyr, hy⟩ := hy
  have hxy := Ne.symm hyx
  have hry := Ne.symm hyr
  simp
  by_cases hcm : (findOf h h[w].txn).1.com = false
  · simp [hcm, hrx, hxr, hyr, hry, hxy, hyx]
    refine hend ⟨1, n, w⟩ _ _ (by rw [if_pos hcm]) (by simp) (by simp [hrx, hry]) ?_
    repeat first | exact .refl _ | refine le_right (by assumption) ?_
  rw [if_neg hcm] at hend
  simp only [Bool.not_eq_false] at hcm
  simp [hcm, hxy, hyx]
  refine callK_pure (last_c h hl o _ h[n].key _) ?_
  by_cases hm : lastOf h (findOf h h[w].txn).1.txn h[n].key (findOf h h[w].txn).1.to = w
  · simp [hm, hrx, hxr, hyr, hry, hxy, hyx]
    refine hend ⟨0, 0, 0⟩ _ _ (by rw [if_neg (by simp [hm])]) (by simp) (by simp [hrx, hry]) ?_
    repeat first | exact .refl _ | refine le_right (by assumption) ?_
  · simp [hm, hrx, hxr, hyr, hry, hxy, hyx]
    refine hend ⟨2, n, _⟩ _ _ (by rw [if_pos hm]) (by simp) (by simp [hrx, hry]) ?_
    repeat first | exact .refl _ | refine le_right (by assumption) ?_
end Go.Proofs

namespace Go.Proofs
open Go Go.Sh
set_option maxRecDepth 20000
def aheadE (h : List Ev) (a b : Int) : Bool × Bool := ((findOf h a).1.com && (findOf h b).1.com, decide ((findOf h a).1.to < (findOf h b).1.to))
theorem ahead_c (h : List Ev) (hl : h.length ≤ 140737488355328) (o : Sh.Own) (a b : Int) : PureC Tryz.prog 90 [avH h o, .int .i64 a, .int .i64 b] (.tup [.bool (aheadE h a b).1, .bool (aheadE h a b).2]) := by
  refine pure_of_dwp Tryz.func90 rfl (by kernel_rfl) (by simp [Tryz.ntmps90]) fun st K hK => ?_
  rw [Tryz.ntmps90]
  refine dwp_of_vk (by kernel_rfl) ?_
  simp
  refine callK_pure (find_c h hl o a) ?_
  simp
  refine newK_intro fun x hx => ?_
  simp
  refine callK_pure (find_c h hl o b) ?_
  simp
  refine newK_intro fun y hy => ?_
  simp only [upd_none_iff] at hy
  obtain ⟨hyx, -, hy⟩ := hy
  have hxy := Ne.symm hyx
  simp
  refine lk_draw mixed [[], [], [], [], [], [], [], [], [], [], [], [], []] [] (by kernel_rfl) ?_
  cases hc : (findOf h a).1.com
  · simp [hc, hxy, hyx, Tryz.results90]
    refine fin' (.refl _) ?_ (by simpa [aheadE, hc] using hK)
    repeat first | exact .refl _ | refine le_right (by assumption) ?_
  · simp [hc, hxy, hyx, Tryz.results90]
    refine fin' (.refl _) ?_ (by simpa [aheadE, hc] using hK)
    repeat first | exact .refl _ | refine le_right (by assumption) ?_
def isE (h : List Ev) (i kind txn : Int) : Bool := decide (0 ≤ i ∧ i < h.length) && (decide ((h.getD i.toNat default).kind = kind) && decide ((h.getD i.toNat default).txn = txn))
theorem is_c (h : List Ev) (o : Sh.Own) (i kind txn : Int) : PureC Tryz.prog 91 [avH h o, .int .i64 i, .int .i64 kind, .int .i64 txn] (.bool (isE h i kind txn)) := by
  refine pure_of_dwp Tryz.func91 rfl (by kernel_rfl) (by simp [Tryz.ntmps91]) fun st K hK => ?_
  rw [Tryz.ntmps91]
  refine dwp_of_vk (by kernel_rfl) ?_
  simp
  by_cases h1 : 0 ≤ i
  · obtain ⟨n, rfl⟩ : ∃ n : Nat, i = n := ⟨i.toNat, by omega⟩
    by_cases h2 : n < h.length
    · by_cases h3 : h[n].kind = kind
      · simp [h2, h3, Tryz.results91]
        exact fin (by simpa [isE, h2, h3] using hK)
      · simp [h2, h3, Tryz.results91]
        exact fin (by simpa [isE, h2, h3] using hK)
    · simp [h2, Tryz.results91]
      exact fin (by simpa [isE, h2] using hK)
  · simp [h1, Tryz.results91]
    exact fin (by simpa [isE, h1] using hK)
def overE (h : List Ev) (x : Ev) (to : Int) : Bool :=
  if x.val = ⟨#[]⟩ then true
  else if writerOf h x.key x.val < 0 then false
  else if (h.getD (writerOf h x.key x.val).toNat default).txn = to then false
  else (aheadE h (h.getD (writerOf h x.key x.val).toNat default).txn to).1 && (aheadE h (h.getD (writerOf h x.key x.val).toNat default).txn to).2
theorem eover_c (h : List Ev) (hl : h.length ≤ 140737488355328) (o : Sh.Own) (x : Ev) (to : Int) : PureC Tryz.prog 92 [avH h o, .agg (encEv x), .int .i64 to] (.bool (overE h x to)) := by
  refine pure_of_dwp Tryz.func92 rfl (by kernel_rfl) (by simp [Tryz.ntmps92]) fun st K hK => ?_
  rw [Tryz.ntmps92]
  refine dwp_of_vk (by kernel_rfl) ?_
  simp
  refine newK_intro fun a ha => ?_
  simp
  have hle : ∀ A, St.le st (st.upd a A) := fun A => le_right ha (.refl _)
  by_cases hv : x.val = ⟨#[]⟩
  · simp [hv, Tryz.results92]
    exact fin' (.refl _) (hle _) (by simpa [overE, hv] using hK)
  simp [hv]
  refine callK_pure (writer_c h hl o x.key x.val) ?_
  by_cases hw : writerOf h x.key x.val < 0
  · simp [hw, Tryz.results92]
    exact fin' (.refl _) (hle _) (by simpa [overE, hv, hw] using hK)
  obtain ⟨w, hwl, hwe, -⟩ := idxOf_nat hw
  have hwe : writerOf h x.key x.val = w := hwe
  have hdw : h.getD w default = h[w] := by simp [hwl]
  have ho : overE h x to = if h[w].txn = to then false else (aheadE h h[w].txn to).1 && (aheadE h h[w].txn to).2 := by
    unfold overE
    rw [if_neg hv, if_neg hw, hwe, Int.toNat_natCast, hdw]
  rw [ho] at hK
  rw [hwe]
  have hw0 : ¬ ((w : Int) < 0) := by omega
  by_cases ht : h[w].txn = to
  · simp [hw0, hwl, ht, Tryz.results92]
    exact fin' (.refl _) (hle _) (by simpa [ht] using hK)
  · simp [hw0, hwl, ht]
    refine callK_pure (ahead_c h hl o h[w].txn to) ?_
    cases hA : (aheadE h h[w].txn to).1
    · simp [hA, Tryz.results92]
      exact fin' (.refl _) (hle _) (by simpa [ht, hA] using hK)
    · simp [hA, Tryz.results92]
      exact fin' (.refl _) (hle _) (by simpa [ht, hA] using hK)
end Go.Proofs
