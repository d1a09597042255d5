import Derived.Test.YtdhmbpipjdapfaaGreatShBm
import Derived.Test.YtdhmbpipjdapfaaGreatShBg
import Derived.Shelf.SlSortCmp.NoneTotal
set_option linter.unusedSimpArgs false
set_option linter.unusedVariables false

namespace Go.Proofs
open Go Go.Sh
set_option maxRecDepth 20000
theorem notCom_c (l : Lf) : PureC Tryz.prog 129 [.agg (encLf l)] (.bool (!l.com)) := by
  refine pure_of_dwp Tryz.func129 rfl (by kernel_rfl) (by simp [Tryz.ntmps129]) fun st K hK => ?_
  rw [Tryz.ntmps129]
  refine dwp_of_vk (by kernel_rfl) ?_
  simp
  refine newK_intro fun x hx => ?_
  simp [Tryz.results129]
  exact fin' (.refl _) (le_right hx (.refl _)) hK
theorem minusTo_c (a b : Lf) : PureC Tryz.prog 131 [.agg (encLf a), .agg (encLf b)] (.int .i64 (IntKind.i64.wrap (a.to - b.to))) := by
  refine pure_of_dwp Tryz.func131 rfl (by kernel_rfl) (by simp [Tryz.ntmps131]) fun st K hK => ?_
  rw [Tryz.ntmps131]
  refine dwp_of_vk (by kernel_rfl) ?_
  simp
  refine newK_intro fun x hx => ?_
  simp
  refine newK_intro fun y hy => ?_
  simp only [upd_none_iff] at hy
  have hyx : x ≠ y := Ne.symm hy.1
  simp [Tryz.results131, hyx]
  exact fin' (.refl _) (le_right hy.2 (le_right hx (.refl _))) hK
theorem rowGet {s : St} {id e sz : Nat} {xs : List (List AV)} {off c : Nat} {cs : List AV} (h : rowIs s id e sz xs off c) (hs : s id = some (.cells e cs)) (i : Nat) (hi : i < xs.length) :
    off + i * sz + sz ≤ cs.length ∧ (cs.drop (off + i * sz)).take sz = xs[i] := by
  obtain ⟨cs', h1, h2, h3⟩ := h.get i hi
  rw [hs] at h1; injection h1 with h1; injection h1 with _ h1; subst h1
  exact ⟨h2, h3⟩
/-- An index into a row of lives, where none turns. -/
theorem idxLf_c (xs : List Lf) (hl : xs.length ≤ 140737488355328) {st0 s : St} {id off c : Nat} (ha : Acc st0 s id off c 32 4 (xs.map encLf)) {m : Nat} (hm : m = xs.length) {K : AV → St → Prop} (hK : K (.int .i64 (idxOf xs fun l => !l.com)) s) :
    dcall Tryz.prog 146 [.rowp id off 4 m c, .fn 129 []] s K := by
  subst hm
  refine dcall_of_dwp Tryz.func146 rfl (by kernel_rfl) (by simp [Tryz.ntmps146]) ?_
  rw [Tryz.ntmps146]
  refine dwp_of_vk (by kernel_rfl) ?_
  simp
  refine lk_loop (α := Nat) (fun i => Env.ofList [(0, .rowp id off 4 xs.length c), (1, .fn 129 []), (7, .int .i64 xs.length), (8, .int .i64 i)]) (fun _ => s) (fun i => i ≤ xs.length ∧ ∀ j (hj : j < xs.length), j < i → (!xs[j].com) = false) (fun i => xs.length - i) 0 (by kernel_rfl) ⟨Nat.zero_le _, fun _ _ hj => absurd hj (by omega)⟩ (Env.sub_ofList (by simp)) (.refl _) ?_
  rintro i ⟨hi, hno⟩ R hR hX
  simp
  by_cases hlt : i < xs.length
  · have hw : IntKind.i64.wrap (↑i + 1) = ↑i + 1 := wrap_i64 (by omega) (by omega)
    obtain ⟨_, _, cs, g1, _⟩ : st0 id = none ∧ 0 < c ∧ rowIs s id 32 4 (xs.map encLf) off c := by
      rcases ha.ok with ⟨_, h⟩ | h
      · rw [List.map_eq_nil_iff.1 h] at hlt; simp at hlt
      · exact h
    obtain ⟨g2, g3⟩ : off + i * 4 + 4 ≤ cs.length ∧ (cs.drop (off + i * 4)).take 4 = encLf xs[i] := by
      rcases ha.ok with ⟨_, h⟩ | ⟨_, _, h⟩
      · rw [List.map_eq_nil_iff.1 h] at hlt; simp at hlt
      · have := rowGet h g1 i (by simpa using hlt)
        rw [List.getElem_map] at this; exact this
    simp [hlt, cellsAt_of g1, g2, g3]
    refine callK_pure (notCom_c xs[i]) ?_
    cases hpi : (!xs[i].com)
    · simp
      refine hR (i + 1) _ _ ⟨hlt, fun j hj hji => ?_⟩ (by omega) (Env.sub_ofList (by simp [hw])) (.refl _)
      by_cases e : j = i
      · subst e; exact hpi
      · exact hno j hj (by omega)
    · simp
      refine hX .ret _ _ (by simp) ?_
      simp [Tryz.results146]
      exact fin (by rw [idxOf_hit (p := fun l : Lf => !l.com) hlt hpi hno] at hK; exact hK)
  · simp [hlt]
    refine hX _ _ _ (by simp) ?_
    simp [Tryz.results146]
    exact fin (by rw [idxOf_miss (p := fun l : Lf => !l.com) fun j hj => hno j hj (by omega)] at hK; exact hK)
theorem idxOf_spec {α : Type} (h : List α) (p : α → Bool) : (idxOf h p = -1 ∧ ∀ x ∈ h, p x = false) ∨ ∃ i, ∃ hi : i < h.length, idxOf h p = i ∧ p h[i] = true ∧ ∀ j (hj : j < h.length), j < i → p h[j] = false := by
  unfold idxOf
  cases hf : h.findIdx? p with
  | none => exact .inl ⟨rfl, fun x hx => List.findIdx?_eq_none_iff.1 hf x hx⟩
  | some i =>
    obtain ⟨hi, h1, h2⟩ := List.findIdx?_eq_some_iff_getElem.1 hf
    exact .inr ⟨i, hi, rfl, h1, fun j hj hji => by simpa using h2 j hji⟩
theorem rowSet {s : St} {id e sz : Nat} {xs : List (List AV)} {off c : Nat} {cs : List AV} (h : rowIs s id e sz xs off c) (hs : s id = some (.cells e cs)) (i : Nat) (hi : i < xs.length) (y : List AV) (hy : y.length = sz) :
    rowIs (s.upd id (.cells e (spliceL cs (off + i * sz) y))) id e sz (xs.set i y) off c := by
  obtain ⟨cs', h1, h2, h3, h4, h5, h6⟩ := h
  rw [hs] at h1; injection h1 with h1; injection h1 with _ h1; subst h1
  have hb : (i + 1) * sz ≤ xs.length * sz := Nat.mul_le_mul_right _ hi
  have hb2 : xs.length * sz ≤ c * sz := Nat.mul_le_mul_right _ h3
  rw [Nat.succ_mul] at hb
  have h6' : ∀ x ∈ xs.set i y, x.length = sz := fun x hx => (List.mem_or_eq_of_mem_set hx).elim (h6 x) fun e => e ▸ hy
  refine ⟨_, upd_eq _ _ _, by rw [length_spliceL]; exact h2, by simpa using h3, h4, ?_, h6'⟩
  have hfl := flatten_take sz xs h6
  have hfl' := flatten_take sz (xs.set i y) h6'
  rw [List.length_set] at hfl' ⊢
  have hd : ∀ (ys : List (List AV)), (∀ x ∈ ys, x.length = sz) → ∀ i, i < ys.length → (ys.getD i []).length = sz := fun ys hys i hi => hys _ (by rw [List.getD_eq_getElem?_getD, List.getElem?_eq_getElem hi]; exact List.getElem_mem hi)
  apply List.ext_getElem?
  intro t
  rw [List.getElem?_take, List.getElem?_drop, get_spliceL]
  by_cases ht : t < xs.length * sz
  · have hsz : 0 < sz := by rcases Nat.eq_zero_or_pos sz with h | h; subst h; simp at ht; exact h
    have hq : t / sz < xs.length := Nat.div_lt_of_lt_mul (by rw [Nat.mul_comm]; exact ht)
    have e : t = t / sz * sz + t % sz := by rw [Nat.mul_comm]; exact (Nat.div_add_mod t sz).symm
    have hr := Nat.mod_lt t hsz
    have k1 := flatten_get sz (xs.set i y) (hd _ h6') (t / sz) (t % sz) (by simpa using hq) hr
    have k2 := flatten_get sz xs (hd _ h6) (t / sz) (t % sz) hq hr
    rw [← e] at k1 k2
    have e5 := congrArg (·[t]?) h5
    simp only [List.getElem?_take, List.getElem?_drop, if_pos ht] at e5
    rw [if_pos ht]
    rw [List.getD_eq_getElem?_getD, List.getElem?_eq_getElem (by rw [hfl']; exact ht), Option.getD_some] at k1
    rw [List.getD_eq_getElem?_getD, List.getElem?_eq_getElem (by rw [hfl]; exact ht), Option.getD_some] at k2
    have k3 : (xs.set i y).flatten[t]? = some (((xs.set i y).getD (t / sz) []).getD (t % sz) .undef) := by rw [List.getElem?_eq_getElem (by rw [hfl']; exact ht), k1]
    rw [k3]
    by_cases hi2 : t / sz = i
    · have hlo : i * sz ≤ t := by rw [← hi2]; omega
      have hhi : t - i * sz = t % sz := by rw [← hi2]; omega
      rw [if_pos ⟨by omega, by omega, by omega⟩]
      have : off + t - (off + i * sz) = t % sz := by omega
      rw [this, hi2, List.getD_eq_getElem?_getD (l := xs.set i y), List.getElem?_set_self hi, Option.getD_some, List.getElem?_eq_getElem (by omega), List.getD_eq_getElem?_getD, List.getElem?_eq_getElem (by omega)]; rfl
    · have hne : ¬ (off + i * sz ≤ off + t ∧ off + t < off + i * sz + y.length ∧ off + t < cs.length) := by
        rintro ⟨a1, a2, _⟩
        apply hi2
        exact Nat.div_eq_of_lt_le (by omega) (by rw [Nat.add_mul]; omega)
      rw [if_neg hne, e5, List.getElem?_eq_getElem (by rw [hfl]; exact ht), k2, List.getD_eq_getElem?_getD (l := xs.set i y), List.getElem?_set_ne (Ne.symm hi2), ← List.getD_eq_getElem?_getD]
  · rw [if_neg ht, List.getElem?_eq_none (by rw [hfl']; omega)]
end Go.Proofs

namespace Go.Proofs
open Go Go.Sh
set_option maxRecDepth 20000
theorem Acc.row {st0 s : St} {id off c e sz : Nat} {xs : List (List AV)} (h : Acc st0 s id off c e sz xs) (hc : 0 < c) : rowIs s id e sz xs off c := by
  rcases h.ok with ⟨h, _⟩ | ⟨_, _, h⟩
  · omega
  · exact h
theorem Acc.set {st0 s : St} {id off c e sz : Nat} {xs : List (List AV)} {cs : List AV} (h : Acc st0 s id off c e sz xs) (h0 : st0 id = none) (hc : 0 < c) (hs : s id = some (.cells e cs)) (i : Nat) (hi : i < xs.length) (y : List AV) (hy : y.length = sz) :
    Acc st0 (s.upd id (.cells e (spliceL cs (off + i * sz) y))) id off c e sz (xs.set i y) :=
  ⟨le_right h0 h.le, .inr ⟨h0, hc, rowSet (Acc.row h hc) hs i hi y hy⟩⟩
theorem Acc.cut {st0 s : St} {id off c e sz : Nat} {xs : List (List AV)} {cs : List AV} (h : Acc st0 s id off c e sz xs) (h0 : st0 id = none) (hc : 0 < c) (hs : s id = some (.cells e cs)) (i : Nat) (hi : i ≤ xs.length) (cs' : List AV) (hl : cs'.length = cs.length)
    (he : ∀ q, q < off + i * sz → cs'[q]? = cs[q]?) : Acc st0 (s.upd id (.cells e cs')) id off c e sz (xs.take i) := by
  obtain ⟨cs2, h1, h2, h3, h4, h5, h6⟩ := Acc.row h hc
  rw [hs] at h1; injection h1 with h1; injection h1 with _ h1; subst h1
  refine ⟨le_right h0 h.le, .inr ⟨h0, hc, cs', upd_eq _ _ _, by omega, by simp; omega, h4, ?_, fun x hx => h6 x (List.mem_of_mem_take hx)⟩⟩
  have hfl := flatten_take sz xs h6
  have hfl' := flatten_take sz (xs.take i) fun x hx => h6 x (List.mem_of_mem_take hx)
  rw [List.length_take, Nat.min_eq_left hi] at hfl' ⊢
  have hb : i * sz ≤ xs.length * sz := Nat.mul_le_mul_right _ hi
  have hb2 : xs.length * sz ≤ c * sz := Nat.mul_le_mul_right _ h3
  have e0 : xs.flatten = (xs.take i).flatten ++ (xs.drop i).flatten := by rw [← List.flatten_append, List.take_append_drop]
  apply List.ext_getElem?
  intro t
  rw [List.getElem?_take, List.getElem?_drop]
  by_cases ht : t < i * sz
  · have e5 := congrArg (·[t]?) h5
    simp only [List.getElem?_take, List.getElem?_drop] at e5
    rw [if_pos (by omega)] at e5
    rw [if_pos ht, he _ (by omega), e5, e0, List.getElem?_append_left (by rw [hfl']; exact ht)]
  · rw [if_neg ht, List.getElem?_eq_none (by rw [hfl']; omega)]
theorem clr_intro {P : Program} {n : Nat} {Q : Exit → Env → St → Prop} {env : Env} {st : St} {k : Kont} {dsts : List (Option Nat)} {l : List Oper} {d : Option Nat} {id off m t : Nat} {cs : List AV} (hs : st id = some (.cells t cs)) (hm : 0 < m) (hb : off + m ≤ cs.length)
    (hk : vo P n dsts l k Q (env.put d (.tup [])) (st.upd id (.cells t (spliceL cs off (List.replicate m .undef))))) : otherK P n (.clr id off m) d dsts l k Q env st := by
  refine otherK_intro ⟨fun h => by omega, fun _ => ?_⟩
  rw [hs]
  exact ⟨hb, hk⟩
theorem deleteLf_c (xs : List Lf) (hl : xs.length ≤ 1099511627776) {st0 s : St} {id off c : Nat} (ha : Acc st0 s id off c 32 4 (xs.map encLf)) {m : Nat} (hm : m = xs.length) {K : AV → St → Prop}
    (hK : ∀ s', Acc st0 s' id off c 32 4 ((xs.filter (·.com)).map encLf) → K (.rowp id off 4 (xs.filter (·.com)).length c) s') :
    dcall Tryz.prog 128 [.rowp id off 4 m c, .fn 129 []] s K := by
  subst hm
  refine dcall_of_dwp Tryz.func128 rfl (by kernel_rfl) (by simp [Tryz.ntmps128]) ?_
  rw [Tryz.ntmps128]
  refine dwp_of_vk (by kernel_rfl) ?_
  simp
  refine callK_intro (idxLf_c xs (by omega) ha rfl ?_)
  rcases idxOf_spec xs (fun l => !l.com) with ⟨h1, h2⟩ | ⟨i0, hi0, h1, h2, h3⟩
  · simp [h1, Tryz.results128]
    have : xs.filter (·.com) = xs := List.filter_eq_self.2 fun x hx => by simpa using h2 x hx
    rw [this] at hK
    exact fin (hK s ha)
  · have hw0 : IntKind.i64.wrap ((i0 : Int) + 1) = (i0 + 1 : Int) := wrap_i64 (by omega) (by omega)
    have hne : ¬ ((i0 : Int) = -1) := by omega
    simp [h1, hne, hw0]
    obtain ⟨h0, hc, hrow⟩ : st0 id = none ∧ 0 < c ∧ rowIs s id 32 4 (xs.map encLf) off c := by
      rcases ha.ok with ⟨_, h⟩ | h
      · rw [List.map_eq_nil_iff.1 h] at hi0; simp at hi0
      · exact h
    refine lk_loop (α := Nat × Nat × List Lf × St) (fun x => Env.ofList [(0, .rowp id off 4 xs.length c), (1, .fn 129 []), (5, .int .i64 x.1), (6, .int .i64 x.2.1)]) (fun x => x.2.2.2)
      (fun x => x.1 < x.2.1 ∧ x.2.1 ≤ xs.length ∧ x.2.2.1.length = xs.length ∧ x.2.2.1.take x.1 = (xs.take x.2.1).filter (·.com) ∧ x.2.2.1.drop x.2.1 = xs.drop x.2.1 ∧ Acc st0 x.2.2.2 id off c 32 4 (x.2.2.1.map encLf)) (fun x => xs.length - x.2.1) (i0, i0 + 1, xs, s) (by kernel_rfl) ?_ (Env.sub_ofList (by simp)) (.refl _) ?_
    · refine ⟨Nat.lt_succ_self _, hi0, rfl, ?_, rfl, ha⟩
      simp only
      rw [List.take_succ_eq_append_getElem hi0, List.filter_append]
      have e1 : (xs.take i0).filter (·.com) = xs.take i0 := List.filter_eq_self.2 fun x hx => by
        obtain ⟨j, hj, rfl⟩ := List.getElem_of_mem hx
        simp only [List.length_take] at hj
        have := h3 j (by omega) (by omega)
        simpa using this
      have e2 : [xs[i0]].filter (·.com) = [] := by simpa using h2
      rw [e1, e2, List.append_nil]
    · rintro ⟨i, j, ys, s1⟩ ⟨hij, hj, hys, ht, hd, ha1⟩ R hR hX
      simp only at hij hj hys ht hd ha1
      have hrow1 := Acc.row ha1 hc
      simp
      by_cases hlt : j < xs.length
      · have hwi : IntKind.i64.wrap (↑i + 1) = ↑i + 1 := wrap_i64 (by omega) (by omega)
        have hwj : IntKind.i64.wrap (↑j + 1) = ↑j + 1 := wrap_i64 (by omega) (by omega)
        obtain ⟨cs, g1, g4, _⟩ := _root_.id hrow1
        obtain ⟨g2, g3⟩ : off + j * 4 + 4 ≤ cs.length ∧ (cs.drop (off + j * 4)).take 4 = encLf xs[j] := by
          have := rowGet hrow1 g1 j (by simpa [hys] using hlt)
          rw [List.getElem_map] at this
          have e : ys[j]'(by omega) = xs[j] := by
            have := congrArg (·[0]?) hd
            simpa [hlt, hys] using this
          rw [e] at this; exact this
        simp [hlt, cellsAt_of g1, g2, g3]
        refine newK_intro fun x hx => ?_
        have hxi : id ≠ x := fun e => by subst e; rw [g1] at hx; cases hx
        simp [hxi]
        refine callK_pure (notCom_c xs[j]) ?_
        have hdn : ys.drop (j + 1) = xs.drop (j + 1) := by
          have := congrArg (List.drop 1) hd
          simpa [List.drop_drop, Nat.add_comm] using this
        cases hcom : xs[j].com
        · simp [hwj]
          refine hR (i, j + 1, ys, _) _ _ ⟨by show i < j + 1; omega, hlt, hys, ?_, hdn, (ha1.new hx _).new_same hx (ha1.fresh hx) (ha1.none hx) _⟩ (by simp; omega) (Env.sub_ofList (by simp [hwj])) (.refl _)
          simp only
          rw [List.take_succ_eq_append_getElem hlt, List.filter_append, ht]
          simp [hcom]
        · simp [hwj, hwi, cellsAt_of g1, hxi]
          have hr2 := rowSet hrow1 g1 i (by simp; omega) (encLf xs[j]) rfl
          have hmap : (ys.map encLf).set i (encLf xs[j]) = (ys.set i xs[j]).map encLf := by rw [List.map_set]
          rw [hmap] at hr2
          have hil : i < xs.length := by omega
          have hb1 : off + i * 4 + 4 ≤ cs.length := by omega
          simp [hil, cellsAt_of g1, hxi, hb1, hwi, hwj]
          have ha2 := (ha1.new hx (.cells 32 [.int .i64 0, .int .i64 0, .int .i64 0, .bool false])).new_same hx (ha1.fresh hx) (ha1.none hx) (.cells 32 (encLf xs[j]))
          have hA := Acc.set ha2 h0 hc (by rw [upd_ne _ hxi, upd_ne _ hxi]; exact g1) i (by simp; omega) (encLf xs[j]) rfl
          rw [List.map_set.symm] at hA
          generalize hS2 : St.upd _ id _ = S2 at hA
          refine hR (i + 1, j + 1, ys.set i xs[j], S2) _ _ ⟨by show i + 1 < j + 1; omega, hlt, by simpa using hys, ?_, ?_, hA⟩ (by simp; omega) (Env.sub_ofList (by simp [hwj])) (by rw [← hS2]; simp [hcom])
          · simp only
            rw [List.take_succ_eq_append_getElem hlt, List.filter_append, ← ht, List.take_succ_eq_append_getElem (by simp; omega), List.take_set_of_le (Nat.le_refl _)]
            simp [hcom]
          · simp only
            rw [List.drop_set_of_lt (by omega)]; exact hdn
      · have hje : j = xs.length := by omega
        subst hje
        rw [List.take_length] at ht
        simp [hlt]
        refine hX _ _ _ (by simp) ?_
        have hil : i ≤ xs.length := by omega
        obtain ⟨cs, g1, g4, g5, g6, _⟩ := _root_.id hrow1
        simp only [List.length_map] at g5
        have hci : ¬ ((c : Int) = i) := by omega
        have hnc : xs.length ≤ c := by omega
        have hic : i ≤ c := by omega
        have hii : i < xs.length := hij
        simp [hil, hnc, hci, hic]
        refine clr_intro g1 (by omega) (by omega) ?_
        simp [hil, hnc, hci, hic, Tryz.results128]
        have hA := Acc.cut ha1 h0 hc g1 i (by simp; omega) (spliceL cs (off + i * 4) (List.replicate ((xs.length - i) * 4) .undef)) (length_spliceL _ _ _) fun q hq => by rw [get_spliceL, if_neg (by omega)]
        rw [← List.map_take, ht] at hA
        have hlen : (xs.filter (·.com)).length = i := by rw [← ht, List.length_take]; omega
        rw [hlen] at hK
        exact fin (hK _ hA)
end Go.Proofs

namespace Go.Proofs
open Go Go.Sh Go.RowKit Go.Lib Go.Sort
set_option maxRecDepth 20000
/-- A life that ends within reach. -/
structure LfB where
  v : Lf
  ok : 0 ≤ v.to ∧ v.to ≤ 4611686018427387904
instance : Inhabited LfB := ⟨⟨⟨0, 0, 0, false⟩, by decide⟩⟩
def encB (x : LfB) : List Value := [.int .i64 x.v.txn, .int .i64 x.v.frm, .int .i64 x.v.to, .bool x.v.com]
def cmpB (x y : LfB) : Int := x.v.to - y.v.to
set_option maxHeartbeats 1000000 in
theorem closure131 (x y : LfB) (W : World) : Calls Tryz.prog 131 #[.agg #[.int .i64 x.v.txn, .int .i64 x.v.frm, .int .i64 x.v.to, .bool x.v.com], .agg #[.int .i64 y.v.txn, .int .i64 y.v.frm, .int .i64 y.v.to, .bool y.v.com]] W
    fun e w' => e = .returned (.int .i64 (wrap64 (x.v.to - y.v.to))) ∧ ∃ q os', w' = grow (W.drewN q) os' := by
  go_enter Tryz.func131, Tryz.ntmps131
  go_wp2
  go_ret
  exact ⟨rfl, 0, _, by rw [alloc_eq_grow, alloc_eq_grow, grow_grow]; rfl⟩
theorem wrapB (x y : LfB) : wrap64 (x.v.to - y.v.to) = cmpB x y := by
  have h1 := x.ok
  have h2 := y.ok
  unfold cmpB wrap64
  omega
theorem cmpLays131 (blk off size : Nat) (w : World) : CmpLays Tryz.prog 131 #[] encB 4 cmpB blk off size w := fun _ _ _ _ x y => by
  have := closure131 x y (sortWorldK encB 4 w blk off ‹_› ‹_› ‹_›)
  rw [wrapB] at this
  exact this
theorem ltB_true {x y : LfB} : ltOf cmpB x y = true ↔ x.v.to < y.v.to := by
  unfold ltOf cmpB
  rw [decide_eq_true_iff]; omega
theorem ltB_false {x y : LfB} : ltOf cmpB x y = false ↔ y.v.to ≤ x.v.to := by
  unfold ltOf cmpB
  rw [decide_eq_false_iff_not]; omega
theorem swoB : SWO (ltOf cmpB) := by
  constructor
  · intro x; rw [ltB_false]; omega
  · intro x y z h1 h2; rw [ltB_true] at *; omega
  · intro x y z h1 h2; rw [ltB_false] at *; omega
/-- Lives by their ends. -/
def byTo (l : List Lf) : List Lf := l.mergeSort fun a b => decide (a.to ≤ b.to)
theorem byTo_perm (l : List Lf) : (byTo l).Perm l := List.mergeSort_perm _ _
theorem byTo_sorted (l : List Lf) : (byTo l).Pairwise fun a b => a.to ≤ b.to := by
  have := List.pairwise_mergeSort (le := fun a b : Lf => decide (a.to ≤ b.to)) (fun a b c h1 h2 => by simp at *; omega) (fun a b => by simp; omega) l
  exact this.imp fun h => by simpa using h
theorem byTo_unique {l l' : List Lf} (hp : l'.Perm l) (hs : l'.Pairwise fun a b => a.to ≤ b.to) (hd : ∀ a ∈ l, ∀ b ∈ l, a.to = b.to → a = b) : l' = byTo l :=
  List.Perm.eq_of_pairwise (le := fun a b : Lf => a.to ≤ b.to) (fun a b ha hb h1 h2 => hd a (hp.mem_iff.1 ha) b ((byTo_perm l).mem_iff.1 hb) (by omega)) hs (byTo_sorted l) (hp.trans (byTo_perm l).symm)
theorem byTo_length (l : List Lf) : (byTo l).length = l.length := List.length_mergeSort _
theorem sortLf_none : PureC Tryz.prog 130 [.list 4 [] .clip, .fn 131 []] (.tup []) := by
  refine fun st K hK => ⟨okFn_of Tryz.func130 (by kernel_rfl) (by kernel_rfl), fun B w0 M w vals hI hv => ?_⟩
  have hvs : vals.size = 2 := hv.1
  obtain ⟨v, f1, rfl⟩ : ∃ v f1, vals = #[v, f1] := ⟨vals[0], vals[1], by apply Array.ext; simp [hvs]; intro i h1 h2; simp at h2; (have : i = 0 ∨ i = 1 := by omega); rcases this with rfl | rfl <;> rfl⟩
  have hv0 := hv.2 0
  simp only [List.getD_cons_zero, Array.getD_eq_getD_getElem?, List.getElem?_toArray, List.getElem?_cons_zero, Option.getD_some] at hv0
  obtain ⟨p, rfl⟩ : ∃ p, v = .slice p 0 0 := by
    generalize hx : ([] : List (List AV)) = xs at hv0
    cases hv0 with
    | nils => exact ⟨none, rfl⟩
    | list _ _ _ a cap g hF hg hl hc hm hoo => subst hx; simp only [OwnOk, List.length_nil] at hoo; subst hoo; exact ⟨some a, rfl⟩
  refine (AnyF.slices_SortFunc_none Tryz.sortLife p 0 f1 w).mono ?_
  rintro e w' ⟨rfl, rfl⟩
  exact ⟨_, M, .tup [], st, rfl, .refl M, hI, .tup [] #[] rfl (fun _ => .undef _), hK⟩
theorem sortLf_c {zs : List Lf} (hz : zs.length ≤ 1099511627776) (hb : ∀ l ∈ zs, 0 ≤ l.to ∧ l.to ≤ 4611686018427387904) (hd : ∀ a ∈ zs, ∀ b ∈ zs, a.to = b.to → a = b) 
    {st0 s : St} {id off c m : Nat} (ha : Acc st0 s id off c 32 4 (zs.map encLf)) (hm : m = zs.length) {K : AV → St → Prop}
    (hK : ∀ s', Acc st0 s' id off c 32 4 ((byTo zs).map encLf) → (∀ j, (c = 0 ∨ j ≠ id) → s' j = s j) → K (.tup []) s') : dcall Tryz.prog 130 [.rowp id off 4 m c, .fn 131 []] s K := by
  subst hm
  have e0 : (zs.pmap LfB.mk hb).map (fun x : LfB => encLf x.v) = zs.map encLf := by
    rw [List.map_pmap, List.pmap_eq_map]
  refine sort_rowK (α := LfB) (k := 4) (by decide) (enc := encB) (u := fun x => encLf x.v) (fun _ => rfl) (fun M x j hj => ?_) (fun M x j v hj hv => ?_) (okFn_of Tryz.func130 (by kernel_rfl) (by kernel_rfl)) (ltOf cmpB) (fun blk off cap d w h1 h2 h3 => ?_) sortLf_none
    (zs := zs.pmap LfB.mk hb) (by simp; omega) (by rw [e0]; exact ha) (by simp) fun s' zs' h1 h2 h3 h4 => hK s' ?_ h4
  · rcases j with _ | _ | _ | _ | j
    · exact .int _ _
    · exact .int _ _
    · exact .int _ _
    · exact .bool _
    · omega
  · rcases j with _ | _ | _ | _ | j
    · cases hv; rfl
    · cases hv; rfl
    · cases hv; rfl
    · cases hv; rfl
    · omega
  · exact AnyQ.slices_SortFunc Tryz.sortLife 4 Tryz.isAgg32 Tryz.sizeOf32 encB (fun _ => rfl) (fun x v hv => by simp [encB] at hv; rcases hv with rfl | rfl | rfl | rfl <;> rfl) cmpB swoB 131 #[] blk off cap d w (enters_of Tryz.func131 (by kernel_rfl) rfl) (cmpLays131 blk off d.size w) h1 h2 h3
  · have e1 : zs'.map (fun x : LfB => encLf x.v) = (zs'.map LfB.v).map encLf := by rw [List.map_map]; rfl
    have e2 : zs'.map LfB.v = byTo zs := by
      refine byTo_unique ?_ ?_ hd
      · have := h1.map LfB.v
        rwa [List.map_pmap, List.pmap_eq_map, List.map_id'] at this
      · rw [List.pairwise_map]
        exact h2.imp fun h => ltB_false.1 h
    rw [e1, e2] at h3
    exact h3
end Go.Proofs

namespace Go.Proofs
open Go Go.Sh
set_option maxRecDepth 20000
theorem lives_mem {h : List Ev} {l : Lf} : ∀ {n}, n ≤ h.length → l ∈ livesTo h n → ∃ i, ∃ hi : i < h.length, i < n ∧ anyB (h.take i) h[i].txn = false ∧ l = lifeOf h h[i].txn i
  | 0, _, hm => by simp [livesTo] at hm
  | n + 1, hn, hm => by
    have e : h.getD n default = h[n] := by simp [show n < h.length by omega]
    unfold livesTo at hm
    rw [e] at hm
    split at hm
    · obtain ⟨i, hi, h1, h2⟩ := lives_mem (by omega) hm
      exact ⟨i, hi, by omega, h2⟩
    · rename_i ha
      rcases List.mem_append.1 hm with hm | hm
      · obtain ⟨i, hi, h1, h2⟩ := lives_mem (by omega) hm
        exact ⟨i, hi, by omega, h2⟩
      · exact ⟨n, by omega, by omega, by simpa using ha, by simpa using hm⟩
theorem anyB_false {h : List Ev} {t : Int} {j : Nat} (ha : anyB (h.take j) t = false) (i : Nat) (hi : i < h.length) (hij : i < j) : h[i].txn ≠ t := by
  intro e
  have : anyB (h.take j) t = true := by
    simp only [anyB, List.any_eq_true, decide_eq_true_eq]
    exact ⟨h[i], List.mem_take_iff_getElem.2 ⟨i, by omega, rfl⟩, e⟩
  rw [this] at ha; cases ha
theorem lives_inj {h : List Ev} {a b : Lf} (ha : a ∈ livesAll h) (hb : b ∈ livesAll h) (e : a.txn = b.txn) : a = b := by
  obtain ⟨i, hi, _, h1, rfl⟩ := lives_mem (Nat.le_refl _) ha
  obtain ⟨j, hj, _, h2, rfl⟩ := lives_mem (Nat.le_refl _) hb
  simp only [lifeOf] at e
  rcases Nat.lt_trichotomy i j with h3 | h3 | h3
  · exact absurd e (anyB_false h2 i hi h3)
  · subst h3; rfl
  · exact absurd e.symm (anyB_false h1 j hj h3)
theorem endOf_spec (h : List Ev) (t : Int) : endOf h t = -1 ∨ ∃ n, ∃ hn : n < h.length, endOf h t = n ∧ h[n].txn = t ∧ (h[n].kind = 4 ∨ h[n].kind = 5) ∧ ∀ j (hj : j < h.length), j < n → endP t h[j] = false := by
  rcases idxOf_spec h (endP t) with ⟨h1, _⟩ | ⟨n, hn, h1, h2, h3⟩
  · exact .inl h1
  · simp only [endP, decide_eq_true_eq] at h2
    exact .inr ⟨n, hn, h1, h2.1, h2.2, h3⟩
/-- A committed life. -/
theorem lives_com {h : List Ev} {l : Lf} (hl : l ∈ livesAll h) (hc : l.com = true) : ∃ n, ∃ hn : n < h.length, l.to = n ∧ h[n].txn = l.txn ∧ h[n].kind = 4 := by
  obtain ⟨i, hi, _, h1, rfl⟩ := lives_mem (Nat.le_refl _) hl
  simp only [lifeOf, decide_eq_true_eq] at hc ⊢
  rcases endOf_spec h h[i].txn with h2 | ⟨n, hn, h2, h3, h4, _⟩
  · omega
  · have e : h.getD n default = h[n] := by simp [hn]
    rw [h2, Int.toNat_natCast, e] at hc
    rw [h2, if_neg (by omega)]
    exact ⟨n, hn, rfl, h3, hc.2⟩
theorem lives_to {h : List Ev} {l : Lf} (hl : l ∈ livesAll h) : 0 ≤ l.to ∧ l.to ≤ h.length := by
  obtain ⟨i, hi, _, h1, rfl⟩ := lives_mem (Nat.le_refl _) hl
  simp only [lifeOf]
  rcases endOf_spec h h[i].txn with h2 | ⟨n, hn, h2, _⟩
  · rw [h2]; simp
  · rw [h2, if_neg (by omega)]; omega
def comLives (h : List Ev) : List Lf := (livesAll h).filter (·.com)
theorem comLives_inj {h : List Ev} (a : Lf) (ha : a ∈ comLives h) (b : Lf) (hb : b ∈ comLives h) (e : a.to = b.to) : a = b := by
  obtain ⟨ha1, ha2⟩ := List.mem_filter.1 ha
  obtain ⟨hb1, hb2⟩ := List.mem_filter.1 hb
  obtain ⟨n, hn, h1, h2, _⟩ := lives_com ha1 ha2
  obtain ⟨m, hm, h3, h4, _⟩ := lives_com hb1 hb2
  have : n = m := by omega
  subst this
  exact lives_inj ha1 hb1 (h2.symm.trans h4)
theorem livesAll_length (h : List Ev) : (livesAll h).length ≤ h.length := livesTo_length h _
/-- The versions that were written, by the ends of their transactions. -/
def verTo (h : List Ev) (key : ByteArray) (l : List Lf) : List Int := (l.map fun x => lastOf h x.txn key x.to).filter fun i => decide (0 ≤ i)
def versionsOf (h : List Ev) (key : ByteArray) : List Int := verTo h key (byTo (comLives h))
theorem verTo_succ (h : List Ev) (key : ByteArray) (l : List Lf) (i : Nat) (hi : i < l.length) : verTo h key (l.take (i + 1)) = verTo h key (l.take i) ++ if 0 ≤ lastOf h l[i].txn key l[i].to then [lastOf h l[i].txn key l[i].to] else [] := by
  unfold verTo
  rw [List.take_succ_eq_append_getElem hi, List.map_append, List.filter_append]
  congr 1
  by_cases h0 : 0 ≤ lastOf h l[i].txn key l[i].to <;> simp [h0]
theorem verTo_length (h : List Ev) (key : ByteArray) (l : List Lf) : (verTo h key l).length ≤ l.length := by
  unfold verTo
  exact Nat.le_trans (List.length_filter_le _ _) (by simp)
theorem versions_c (h : List Ev) (hl : h.length ≤ 1099511627776) (o : Sh.Own) (key : ByteArray) : PureC Tryz.prog 107 [avH h o, .str key] (avI (versionsOf h key) .no) := by
  intro st K hK
  refine dcall_gh (K' := fun v s => ∃ id off c, v = .rowp id off 1 (versionsOf h key).length c ∧ Acc st s id off c 3 1 ((versionsOf h key).map celI)) ?_ ?_
  · rintro v s ⟨id, off, c, rfl, h2⟩
    refine ⟨_, _, ?_, hK⟩
    have := gh_row h2
    simpa using this
  refine dcall_of_dwp Tryz.func107 rfl (by kernel_rfl) (by simp [Tryz.ntmps107]) ?_
  rw [Tryz.ntmps107]
  refine dwp_of_vk (by kernel_rfl) ?_
  simp
  refine callK_intro (lives_row h hl o fun id off c s ha => ?_)
  have hla := livesAll_length h
  simp
  refine callK_intro (deleteLf_c (livesAll h) (by omega) ha rfl fun s1 ha1 => ?_)
  have hlc : (comLives h).length ≤ h.length := Nat.le_trans (List.length_filter_le _ _) hla
  simp
  refine callK_intro (sortLf_c (zs := comLives h) (by omega) (fun l hm => ?_) comLives_inj ha1 rfl fun s2 ha2 _ => ?_)
  · have := lives_to (List.mem_filter.1 hm).1
    omega
  have hlb := byTo_length (comLives h)
  obtain ⟨l, hL⟩ : ∃ l, byTo (comLives h) = l := ⟨_, rfl⟩
  have hv : versionsOf h key = verTo h key l := by rw [← hL]; rfl
  rw [hv]
  rw [hL] at ha2 hlb
  have hlc' : (List.filter (fun x => x.com) (livesAll h)).length = l.length := hlb.symm
  simp [hlc']
  refine lk_loop_gh (α := Nat × Nat × Nat × Nat × St) (fun x => Env.ofList [(0, avH h o), (1, .str key), (6, .rowp x.2.1 x.2.2.1 1 (verTo h key (l.take x.1)).length x.2.2.2.1), (15, .list 4 (l.map encLf) .no), (16, .int .i64 l.length), (17, .int .i64 x.1)]) (fun x => x.2.2.2.2)
    (fun x => x.1 ≤ l.length ∧ Acc st x.2.2.2.2 x.2.1 x.2.2.1 x.2.2.2.1 3 1 ((verTo h key (l.take x.1)).map celI)) (fun x => l.length - x.1) (0, 0, 0, 0, st) (by kernel_rfl) ⟨Nat.zero_le _, Acc.nil ..⟩ (ghE_row (m := l.length) ha2 (by simp) (by simp [verTo, sub_rowp])) ?_
  rintro ⟨i, id, off, c, s⟩ ⟨hi, ha⟩ R hR hX
  simp only at hi ha
  simp
  by_cases hlt : i < l.length
  · have hw : IntKind.i64.wrap (↑i + 1) = ↑i + 1 := wrap_i64 (by omega) (by omega)
    simp [hlt]
    refine newK_intro fun x hx => ?_
    have hvl := verTo_length h key (l.take i)
    rw [List.length_take] at hvl
    simp
    refine callK_pure (last_c h (by omega) o l[i].txn key l[i].to) ?_
    have hb1 : ((verTo h key (l.take i)).length + 1) * 8 ≤ 140737488355328 := by omega
    have hb2 : (verTo h key (l.take i)).length ≤ 9223372036854775806 := by omega
    have hvs := verTo_succ h key l i hlt
    have ha2 := (ha.new hx (.cells 32 [.int .i64 0, .int .i64 0, .int .i64 0, .bool false])).new_same hx (ha.fresh hx) (ha.none hx) (.cells 32 (encLf l[i]))
    simp
    by_cases h0 : 0 ≤ lastOf h l[i].txn key l[i].to
    · rw [if_pos h0] at hvs
      simp [h0, hb1, hb2]
      refine appr_intro (ys := [celI (lastOf h l[i].txn key l[i].to)]) (ha2) (by simp) (by simp) fun id' off' c' s' ha' _ => ?_
      simp [hw]
      refine hR (i + 1, id', off', c', s') _ _ ⟨hlt, by simpa [hvs] using ha'⟩ (by simp; omega) (GhE.of (Env.sub_ofList (by simp [hw, hvs])) (.refl _))
    · rw [if_neg h0, List.append_nil] at hvs
      simp [h0, hw]
      refine hR (i + 1, id, off, c, s) _ _ ⟨hlt, by rw [hvs]; exact ha⟩ (by simp; omega) (GhE.of (Env.sub_ofList (by simp [hw, hvs])) (le_right hx (le_right hx (.refl _))))
  · simp [hlt]
    refine hX _ _ _ (by simp) ?_
    have : i = l.length := by omega
    subst this
    rw [List.take_length] at ha ⊢
    simp [Tryz.results107]
    exact fin ⟨id, off, c, rfl, ha⟩
end Go.Proofs

namespace Go.Proofs
open Go Go.Sh
set_option maxRecDepth 20000
theorem lastTo_lt (h : List Ev) (txn : Int) (key : ByteArray) (before : Int) : ∀ n, lastTo h txn key before n < n
  | 0 => by simp [lastTo]
  | n + 1 => by
    have := lastTo_lt h txn key before n
    unfold lastTo
    split <;> omega
theorem versions_in {h : List Ev} {key : ByteArray} {k : Int} (hk : k ∈ versionsOf h key) : 0 ≤ k ∧ k < h.length := by
  unfold versionsOf verTo at hk
  obtain ⟨h1, h2⟩ := List.mem_filter.1 hk
  obtain ⟨x, _, rfl⟩ := List.mem_map.1 h1
  exact ⟨by simpa using h2, lastTo_lt h _ _ _ _⟩
theorem versions_length (h : List Ev) (key : ByteArray) : (versionsOf h key).length ≤ h.length := by
  unfold versionsOf
  refine Nat.le_trans (verTo_length _ _ _) ?_
  rw [byTo_length]
  exact Nat.le_trans (List.length_filter_le _ _) (livesAll_length h)
theorem outer_c (h : List Ev) (hl : h.length ≤ 140737488355328) (o : Sh.Own) (i : Nat) (hi : i < h.length) : PureC Tryz.prog 108 [avH h o, .int .i64 i] (.bool (countsE h i && decide (lastOf h h[i].txn h[i].key i < 0))) := by
  refine pure_of_dwp Tryz.func108 rfl (by kernel_rfl) (by simp [Tryz.ntmps108]) fun st K hK => ?_
  rw [Tryz.ntmps108]
  refine dwp_of_vk (by kernel_rfl) ?_
  simp
  refine lk_draw mixed (List.replicate 20 []) [(7, .bool (countsE h i)), (21, .int .i64 (lastOf h h[i].txn h[i].key i))] (by kernel_rfl) ?_
  simp
  refine ⟨counts_c h hl o i, ?_⟩
  cases hc : countsE h i
  · simp [Tryz.results108]
    exact fin (by simpa [hc] using hK)
  · simp [hi]
    refine ⟨last_c h hl o _ _ _, ?_⟩
    exact fin (by simpa [hc] using hK)
/-- An index into whole numbers. -/
theorem idxI_c (v : List Int) (hl : v.length ≤ 140737488355328) (o : Sh.Own) (g : FuncId) (caps : List AV) (p : Int → Bool) {st : St} {K : AV → St → Prop}
    (hp : ∀ e ∈ v, ∀ K' : AV → St → Prop, K' (.bool (p e)) st → dcall Tryz.prog g (.int .i64 e :: caps) st K') (hK : K (.int .i64 (idxOf v p)) st) :
    dcall Tryz.prog 109 [avI v o, .fn g caps] st K := by
  refine dcall_of_dwp Tryz.func109 rfl (by kernel_rfl) (by simp [Tryz.ntmps109]) ?_
  rw [Tryz.ntmps109]
  refine dwp_of_vk (by kernel_rfl) ?_
  simp
  refine lk_loop (α := Nat) (fun i => Env.ofList [(0, avI v o), (1, .fn g caps), (7, .int .i64 v.length), (8, .int .i64 i)]) (fun _ => st) (fun i => i ≤ v.length ∧ ∀ j (hj : j < v.length), j < i → p v[j] = false) (fun i => v.length - i) 0 (by kernel_rfl) ⟨Nat.zero_le _, fun _ _ hj => absurd hj (by omega)⟩ (Env.sub_ofList (by simp)) (.refl _) ?_
  rintro i ⟨hi, hno⟩ R hR hX
  simp
  by_cases hlt : i < v.length
  · have hw : IntKind.i64.wrap (↑i + 1) = ↑i + 1 := wrap_i64 (by omega) (by omega)
    simp [hlt]
    refine callK_intro (hp v[i] (List.getElem_mem hlt) _ ?_)
    cases hpi : p v[i]
    · simp
      refine hR (i + 1) _ _ ⟨hlt, fun j hj hji => ?_⟩ (by omega) (Env.sub_ofList (by simp [hw])) (.refl _)
      by_cases e : j = i
      · subst e; exact hpi
      · exact hno j hj (by omega)
    · simp
      refine hX .ret _ _ (by simp) ?_
      simp [Tryz.results109]
      exact fin (by rw [idxOf_hit hlt hpi hno] at hK; exact hK)
  · simp [hlt]
    refine hX _ _ _ (by simp) ?_
    simp [Tryz.results109]
    exact fin (by rw [idxOf_miss fun j hj => hno j hj (by omega)] at hK; exact hK)
theorem sameVal_c (h : List Ev) (o : Sh.Own) (k : Int) (i : Nat) (hk : 0 ≤ k ∧ k < h.length) (hi : i < h.length) {hb xb : Nat} {st : St} (h1 : st hb = some (.cells 22 [avH h o])) (h2 : st xb = some (.cells 3 [.int .i64 i])) {K : AV → St → Prop}
    (hK : K (.bool (decide ((h.getD k.toNat default).val = h[i].val))) st) : dcall Tryz.prog 110 [.int .i64 k, .box hb 0, .box xb 0] st K := by
  obtain ⟨n, rfl⟩ : ∃ n : Nat, k = n := ⟨k.toNat, by omega⟩
  have hn : n < h.length := by omega
  refine dcall_of_dwp Tryz.func110 rfl (by kernel_rfl) (by simp [Tryz.ntmps110]) ?_
  rw [Tryz.ntmps110]
  refine dwp_of_vk (by kernel_rfl) ?_
  simp
  refine lk_draw mixed (List.replicate 12 []) [] (by kernel_rfl) ?_
  simp [cellsAt_of h1, cellsAt_of h2, hn, hi, Tryz.results110]
  exact fin (by simpa [hn] using hK)
end Go.Proofs
