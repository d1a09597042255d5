/- Shadow logic, part X: rows under construction; what is known in other words. -/
import Derived.Test.YtdhmbpipjdapfaaGreatShU
namespace Go.Sh
open Go.RowKit

def rowIs (s : St) (id e sz : Nat) (xs : List (List AV)) (off c : Nat) : Prop :=
  ∃ cs, s id = some (.cells e cs) ∧ off + c * sz ≤ cs.length ∧ xs.length ≤ c ∧ c ≤ maxLen ∧ (cs.drop off).take (xs.length * sz) = xs.flatten ∧ ∀ x ∈ xs, x.length = sz
/-- A row that was made behind st0. -/
structure Acc (st0 s : St) (id off c e sz : Nat) (xs : List (List AV)) : Prop where
  le : St.le st0 s
  ok : (c = 0 ∧ xs = []) ∨ (st0 id = none ∧ 0 < c ∧ rowIs s id e sz xs off c)
theorem Acc.nil (st : St) (id off e sz : Nat) : Acc st st id off 0 e sz [] := ⟨.refl _, .inl ⟨rfl, rfl⟩⟩
theorem Acc.mono {st0 s s' : St} {id off c e sz : Nat} {xs : List (List AV)} (h : Acc st0 s id off c e sz xs) (k : St.le s s') : Acc st0 s' id off c e sz xs := by
  refine ⟨h.le.trans k, ?_⟩
  rcases h.ok with h | ⟨h1, h2, cs, h3, h4⟩
  · exact .inl h
  · exact .inr ⟨h1, h2, cs, k _ _ h3, h4⟩
theorem Acc.new {st0 s : St} {id off c e sz : Nat} {xs : List (List AV)} (h : Acc st0 s id off c e sz xs) {x : Nat} (hx : s x = none) (A : AObj) : Acc st0 (s.upd x A) id off c e sz xs := h.mono (le_upd hx A)
/-- Another object of the state is turned. -/
theorem Acc.turn {st0 s : St} {id off c e sz : Nat} {xs : List (List AV)} (h : Acc st0 s id off c e sz xs) {x : Nat} (hx : st0 x = none) (hne : c = 0 ∨ x ≠ id) (A : AObj) : Acc st0 (s.upd x A) id off c e sz xs := by
  refine ⟨le_right hx h.le, ?_⟩
  rcases h.ok with h | ⟨h1, h2, cs, h3, h4⟩
  · exact .inl h
  · refine .inr ⟨h1, h2, cs, ?_, h4⟩
    rcases hne with hc | hne
    · omega
    · rw [upd_ne _ (Ne.symm hne)]; exact h3
/-- A new box is none of the row. -/
theorem Acc.fresh {st0 s : St} {id off c e sz : Nat} {xs : List (List AV)} (h : Acc st0 s id off c e sz xs) {x : Nat} (hx : s x = none) : c = 0 ∨ x ≠ id := by
  rcases h.ok with ⟨h, _⟩ | ⟨_, _, cs, h3, _⟩
  · exact .inl h
  · exact .inr fun e => by rw [e, h3] at hx; cases hx
theorem Acc.none {st0 s : St} {id off c e sz : Nat} {xs : List (List AV)} (h : Acc st0 s id off c e sz xs) {x : Nat} (hx : s x = none) : st0 x = none := by
  cases hs : st0 x with
  | none => rfl
  | some o => rw [h.le _ _ hs] at hx; cases hx
theorem flatten_take (sz : Nat) (xs : List (List AV)) (h : ∀ x ∈ xs, x.length = sz) : xs.flatten.length = xs.length * sz :=
  flatten_len sz xs fun i hi => h _ (by rw [List.getD_eq_getElem?_getD, List.getElem?_eq_getElem hi]; exact List.getElem_mem hi)
theorem getElem?_splice_lt (l : List AV) (k : Nat) (vs : List AV) (q : Nat) (h : q < k) : (spliceL l k vs)[q]? = l[q]? := by
  rw [get_spliceL, if_neg (by omega)]
/-- The row, with more behind it. -/
theorem rowIs.grow {s : St} {id e sz : Nat} {xs ys : List (List AV)} {off c : Nat} {cs : List AV} (hs : s id = some (.cells e cs)) (h1 : off + c * sz ≤ cs.length) (h2 : xs.length + ys.length ≤ c) (h3 : c ≤ maxLen)
    (h4 : (cs.drop off).take (xs.length * sz) = xs.flatten) (h5 : ∀ x ∈ xs, x.length = sz) (h6 : ∀ y ∈ ys, y.length = sz) :
    rowIs (s.upd id (.cells e (spliceL cs (off + xs.length * sz) ys.flatten))) id e sz (xs ++ ys) off c := by
  have hf := flatten_take sz ys h6
  have hfx := flatten_take sz xs h5
  have hb : (xs.length + ys.length) * sz ≤ c * sz := Nat.mul_le_mul_right _ h2
  rw [Nat.add_mul] at hb
  refine ⟨_, upd_eq _ _ _, by rw [length_spliceL]; exact h1, by simpa using h2, h3, ?_, fun x hx => ?_⟩
  · apply List.ext_getElem?
    intro q
    rw [List.length_append, Nat.add_mul, List.getElem?_take, List.flatten_append]
    by_cases hq : q < xs.length * sz + ys.length * sz
    · rw [if_pos hq, List.getElem?_drop, get_spliceL]
      by_cases hq2 : q < xs.length * sz
      · rw [if_neg (by omega), List.getElem?_append_left (by omega)]
        have := congrArg (·[q]?) h4
        simp only [List.getElem?_take, List.getElem?_drop, if_pos hq2] at this
        exact this
      · rw [if_pos (by omega), List.getElem?_append_right (by omega), hfx]
        congr 1; omega
    · rw [if_neg hq, List.getElem?_eq_none (by simp [-List.length_flatten, hf, hfx]; omega)]
  · rcases List.mem_append.1 hx with hx | hx
    · exact h5 x hx
    · exact h6 x hx
theorem rowIs.made {s : St} {id e sz : Nat} {xs : List (List AV)} {c : Nat} (pad : List AV) (h2 : xs.length ≤ c) (h3 : c ≤ maxLen) (h5 : ∀ x ∈ xs, x.length = sz) (hp : pad.length = (c - xs.length) * sz) :
    rowIs (s.upd id (.cells e (xs.flatten ++ pad))) id e sz xs 0 c := by
  have hf := flatten_take sz xs h5
  refine ⟨_, upd_eq _ _ _, ?_, h2, h3, ?_, h5⟩
  · rw [List.length_append, hf, hp, ← Nat.add_mul, Nat.zero_add]
    exact Nat.mul_le_mul_right _ (by omega)
  · rw [List.drop_zero, ← hf, List.take_left']
    rfl

section
variable {P : Program} {n : Nat} {Q : Exit → Env → St → Prop} {env : Env} {st : St} {k : Kont} {dsts : List (Option Nat)} {l : List Oper} {d : Option Nat}
theorem resK_appr {st0 s : St} {id off c e sz m b : Nat} {xs ys : List (List AV)} {K : AV → St → Prop} (ha : Acc st0 s id off c e sz xs) (hm : m = xs.length) (hy : ∀ y ∈ ys, y.length = sz)
    (hk : ∀ id' off' c' s', Acc st0 s' id' off' c' e sz (xs ++ ys) → (∀ j o, s j = some o → (c = 0 ∨ j ≠ id) → s' j = some o) → K (.rowp id' off' sz (m + ys.length) c') s') :
    resK P (.appr e sz b id off m c ys) s K := by
  subst hm
  have hle := ha.le
  unfold resK
  simp only
  by_cases hc : c = 0
  · rw [if_pos hc]
    have hx : xs = [] := by
      rcases ha.ok with ⟨_, h⟩ | ⟨_, h, _⟩
      · exact h
      · omega
    subst hx
    simp only [List.nil_append] at hk
    refine ⟨rfl, fun hy0 => ?_, fun hy0 id' c' h1 h2 h3 => ?_⟩
    · subst hy0
      have := hk id off 0 s ⟨hle, .inl ⟨rfl, rfl⟩⟩ (fun j o hj _ => hj)
      simpa using this
    · have hpos : 0 < ys.length := List.length_pos_iff.2 hy0
      have hn0 : st0 id' = none := by
        cases hs : st0 id' with
        | none => rfl
        | some o => rw [hle _ _ hs] at h1; cases h1
      have := hk id' 0 c' _ ⟨le_right hn0 hle, .inr ⟨hn0, by omega, rowIs.made (s := s) (id := id') (e := e) (List.replicate ((c' - ys.length) * sz) .undef) h2 h3 hy (by simp)⟩⟩ (fun j o hj _ => le_upd h1 _ _ _ hj)
      simpa using this
  · rw [if_neg hc]
    rcases ha.ok with ⟨h, _⟩ | ⟨h0, hpos, cs, g1, g2, g3, g4, g5, g6⟩
    · exact absurd h hc
    · simp only [g1]
      refine ⟨g2, g3, g4, fun hin => ?_, fun hout id' c' h1 h2 h3 => ?_⟩
      · refine hk id off c _ ⟨le_right h0 hle, .inr ⟨h0, hpos, rowIs.grow g1 g2 hin g4 g5 g6 hy⟩⟩ fun j o hj hne => ?_
        rw [upd_ne _ (hne.resolve_left hc)]; exact hj
      · have hn0 : st0 id' = none := by
          cases hs : st0 id' with
          | none => rfl
          | some o => rw [hle _ _ hs] at h1; cases h1
        rw [g5, ← List.flatten_append]
        have hr := rowIs.made (s := s) (id := id') (e := e) (sz := sz) (xs := xs ++ ys) (c := c') (List.replicate ((c' - (xs.length + ys.length)) * sz) .undef) (by simpa using h2) h3
          (fun x hx => by rcases List.mem_append.1 hx with hx | hx; exact g6 x hx; exact hy x hx) (by simp)
        exact hk id' 0 c' _ ⟨le_right hn0 hle, .inr ⟨hn0, by omega, hr⟩⟩ fun j o hj _ => le_upd h1 _ _ _ hj
theorem appr_intro {st0 s : St} {id off c e sz m b : Nat} {xs ys : List (List AV)} (ha : Acc st0 s id off c e sz xs) (hm : m = xs.length) (hy : ∀ y ∈ ys, y.length = sz)
    (hk : ∀ id' off' c' s', Acc st0 s' id' off' c' e sz (xs ++ ys) → (∀ j o, s j = some o → (c = 0 ∨ j ≠ id) → s' j = some o) → vo P n dsts l k Q (env.put d (.rowp id' off' sz (m + ys.length) c')) s') :
    otherK P n (.appr e sz b id off m c ys) d dsts l k Q env s := resK_appr ha hm hy hk
theorem sub_rowp (id off sz sz' : Nat) : AV.sub (.rowp id off sz 0 0) (.list sz' [] .clip) := by
  intro M x h
  generalize hxs : ([] : List (List AV)) = xs at h
  cases h with
  | nils _ _ ho' => exact .rowp0 _ _ _ _
  | list _ _ _ a cap g hF hg hl hc hm hoo =>
    subst hxs
    simp only [OwnOk, List.length_nil] at hoo
    subst hoo
    exact .rowp0 _ _ _ _
/-- An element's cells. -/
theorem rowIs.get {s : St} {id e sz : Nat} {xs : List (List AV)} {off c : Nat} (h : rowIs s id e sz xs off c) (i : Nat) (hi : i < xs.length) :
    ∃ cs, s id = some (.cells e cs) ∧ off + i * sz + sz ≤ cs.length ∧ (cs.drop (off + i * sz)).take sz = xs[i] := by
  obtain ⟨cs, h1, h2, h3, h4, h5, h6⟩ := h
  have hb : (i + 1) * sz ≤ xs.length * sz := Nat.mul_le_mul_right _ hi
  have hb2 : xs.length * sz ≤ c * sz := Nat.mul_le_mul_right _ h3
  rw [Nat.succ_mul] at hb
  refine ⟨cs, h1, by omega, ?_⟩
  have hlen : xs[i].length = sz := h6 _ (List.getElem_mem hi)
  apply List.ext_getElem?
  intro q
  rw [List.getElem?_take, List.getElem?_drop]
  by_cases hq : q < sz
  · rw [if_pos hq]
    have e1 := congrArg (·[i * sz + q]?) h5
    simp only [List.getElem?_take, List.getElem?_drop] at e1
    rw [if_pos (by omega), ← Nat.add_assoc] at e1
    rw [e1]
    have hg := flatten_get sz xs (fun i hi => h6 _ (by rw [List.getD_eq_getElem?_getD, List.getElem?_eq_getElem hi]; exact List.getElem_mem hi)) i q hi hq
    have hfl := flatten_take sz xs h6
    have hlt : i * sz + q < xs.flatten.length := by rw [hfl]; omega
    rw [List.getElem?_eq_getElem hlt, List.getElem?_eq_getElem (by omega : q < xs[i].length)]
    rw [List.getD_eq_getElem?_getD, List.getElem?_eq_getElem hlt, Option.getD_some, List.getD_eq_getElem?_getD (l := xs), List.getElem?_eq_getElem hi, Option.getD_some, List.getD_eq_getElem?_getD, List.getElem?_eq_getElem (by omega : q < xs[i].length), Option.getD_some] at hg
    rw [hg]
  · rw [if_neg hq, List.getElem?_eq_none (by omega)]
end

/-! ### what is known, in other words -/
/-- v' and s' say less than v and s, or the same in other words. -/
def Gh (v' : AV) (s' : St) (v : AV) (s : St) : Prop := ∀ B w0 M w, Inv B w0 M s w → ∃ M', M.le M' ∧ Inv B w0 M' s' w ∧ ∀ x, RepV M v x → RepV M' v' x
theorem Gh.of {v v' : AV} {s s' : St} (h : AV.sub v' v) (k : St.le s' s) : Gh v' s' v s := fun _ _ M _ hI => ⟨M, .refl M, hI.weaken k, fun x hx => h M x hx⟩
theorem Gh.trans {v v' v'' : AV} {s s' s'' : St} (h : Gh v' s' v s) (k : Gh v'' s'' v' s') : Gh v'' s'' v s := fun B w0 M w hI =>
  let ⟨M', h1, h2, h3⟩ := h B w0 M w hI
  let ⟨M'', k1, k2, k3⟩ := k B w0 M' w h2
  ⟨M'', h1.trans k1, k2, fun x hx => k3 x (h3 x hx)⟩
def GhE (e' : Env) (s' : St) (e : Env) (s : St) : Prop := ∀ B w0 M w, Inv B w0 M s w → ∃ M', M.le M' ∧ Inv B w0 M' s' w ∧ ∀ d x, RepV M (e d) x → RepV M' (e' d) x
theorem GhE.of {e e' : Env} {s s' : St} (h : Env.sub e' e) (k : St.le s' s) : GhE e' s' e s := fun _ _ M _ hI => ⟨M, .refl M, hI.weaken k, fun d x hx => h d M x hx⟩
theorem GhE.trans {e e' e'' : Env} {s s' s'' : St} (h : GhE e' s' e s) (k : GhE e'' s'' e' s') : GhE e'' s'' e s := fun B w0 M w hI =>
  let ⟨M', h1, h2, h3⟩ := h B w0 M w hI
  let ⟨M'', k1, k2, k3⟩ := k B w0 M' w h2
  ⟨M'', h1.trans k1, k2, fun d x hx => k3 d x (h3 d x hx)⟩
theorem dcall_gh {P : Program} {f : FuncId} {args : List AV} {st : St} {K K' : AV → St → Prop} (h : ∀ v s, K' v s → ∃ v' s', Gh v' s' v s ∧ K v' s') (hc : dcall P f args st K') : dcall P f args st K := by
  refine ⟨hc.1, fun B w0 M w vals hI hv => (hc.2 B w0 M w vals hI hv).mono ?_⟩
  rintro e w' ⟨x, M', v, s, h1, h2, h3, h4, h5⟩
  obtain ⟨v', s', k1, k2⟩ := h v s h5
  obtain ⟨M'', j1, j2, j3⟩ := k1 B w0 M' w' h3
  exact ⟨x, M'', v', s', h1, h2.trans j1, j2, j3 x h4, k2⟩
theorem dwp_gh {P : Program} {n : Nat} {c : Code} {Q : Exit → Env → St → Prop} {e e' : Env} {s s' : St} (h : GhE e' s' e s) (hc : dwp P n c Q e' s') : dwp P n c Q e s := by
  intro B w0 M a w hI hE
  obtain ⟨M', h1, h2, h3⟩ := h B w0 M w hI
  rw [← h1.ro]
  exact wpIn_mono (hc B w0 M' a w h2 ⟨hE.size, hE.defers.trans h1.ds.symm, fun d => h3 d _ (hE.slot d)⟩) fun _ _ _ hp => hp.le h1.lem
theorem lk_gh {P : Program} {n : Nat} {c : Code} {k : Kont} {Q : Exit → Env → St → Prop} {e e' : Env} {s s' : St} (h : GhE e' s' e s) (hc : lk P n c k Q e' s') : lk P n c k Q e s := dwp_gh h hc
/-- A call whose arguments are known in other words. -/
theorem dcall_args {P : Program} {f : FuncId} {args args' : List AV} {st st' : St} {K : AV → St → Prop} (hl : args'.length = args.length) (h : ∀ B w0 M w, Inv B w0 M st w → ∃ M', M.le M' ∧ Inv B w0 M' st' w ∧ ∀ j x, RepV M (args.getD j .undef) x → RepV M' (args'.getD j .undef) x)
    (hc : dcall P f args' st' K) : dcall P f args st K := by
  refine ⟨hc.1, fun B w0 M w vals hI hv => ?_⟩
  obtain ⟨M', h1, h2, h3⟩ := h B w0 M w hI
  refine (hc.2 B w0 M' w vals h2 ⟨hv.1.trans hl.symm, fun j => h3 j _ (hv.2 j)⟩).mono ?_
  rintro e w' ⟨x, M'', v, s, k1, k2, k3, k4, k5⟩
  exact ⟨x, M'', v, s, k1, h1.trans k2, k3, k4, k5⟩

/-- An object changes no more. -/
theorem freeze {B : Nat} {w0 w : World} {M : Mem} {s : St} {id e : Nat} {cs : List AV} (hI : Inv B w0 M s w) (hs : s id = some (.cells e cs)) :
    ∃ M', M.le M' ∧ Inv B w0 M' (s.del id) w ∧ ∀ off sz c xs, off + c * sz ≤ cs.length → xs.length ≤ c → (cs.drop off).take (xs.length * sz) = xs.flatten → (∀ x ∈ xs, x.length = sz) → ∀ x, RepV M (.rowp id off sz xs.length c) x → RepV M' (.list sz xs .no) x := by
  obtain ⟨hB, arr, a1, a2, a3, a4⟩ := hI.obj id _ hs
  let M' : Mem := { M with F := fun a => if a.block = M.pos id ∧ a.spot = none then arr[a.off]? else M.F a }
  have hle : M.le M' := by
    refine ⟨⟨fun a v h => ?_, Nat.le_refl _, fun _ _ => rfl, fun _ _ => rfl⟩, fun _ _ h => h, rfl, rfl⟩
    show (if _ then _ else _) = _
    rw [if_neg (fun hc => by rw [a4 a hc.1] at h; cases h)]; exact h
  have key : ∀ i x, (s.del id) i = some x → i ≠ id ∧ s i = some x := by
    intro i x h
    simp only [St.del] at h
    split at h
    · cases h
    · rename_i hi; exact ⟨hi, h⟩
  refine ⟨M', hle, ⟨hI.below, hI.size, fun a v h => ?_, fun i x h => hI.dom i x (key i x h).2, fun i j oi oj hi hj => hI.inj i j oi oj (key _ _ hi).2 (key _ _ hj).2, fun i x h => ?_, hI.oth, hI.rnd⟩, ?_⟩
  · by_cases hc : a.block = M.pos id ∧ a.spot = none
    · have h' : arr[a.off]? = some v := by
        have : (if a.block = M.pos id ∧ a.spot = none then arr[a.off]? else M.F a) = some v := h
        rwa [if_pos hc] at this
      have : a = ⟨M.pos id, a.off, none⟩ := by cases a; simp_all
      rw [this, cell_of_row w _ _ _ _ _ a1]; exact h'
    · have h' : M.F a = some v := by
        have : (if a.block = M.pos id ∧ a.spot = none then arr[a.off]? else M.F a) = some v := h
        rwa [if_neg hc] at this
      exact hI.mem a v h'
  · obtain ⟨h1, h2⟩ := key i x h
    have hne : M.pos i ≠ M.pos id := fun hp => h1 (hI.inj i id x _ h2 hs hp)
    refine ⟨(hI.obj i x h2).1, (hI.obj i x h2).2.keep hle rfl fun a ha => ?_⟩
    show (if _ then _ else _) = _
    rw [if_neg (fun hc => hne (ha.symm.trans hc.1))]
  · intro off sz c xs h1 h2 h3 h4 x hx
    have hin : ∀ i j, i < xs.length → j < sz → i * sz + j < xs.length * sz ∧ off + (i * sz + j) < cs.length := by
      intro i j hi hj
      have hb : (i + 1) * sz ≤ xs.length * sz := Nat.mul_le_mul_right _ hi
      have hb2 : xs.length * sz ≤ c * sz := Nat.mul_le_mul_right _ h2
      rw [Nat.succ_mul] at hb
      exact ⟨by omega, by omega⟩
    have hl4 : ∀ i, i < xs.length → (xs.getD i []).length = sz := fun i hi => h4 _ (by rw [List.getD_eq_getElem?_getD, List.getElem?_eq_getElem hi]; exact List.getElem_mem hi)
    have fin : ∀ ad, c ≤ maxLen → (∀ i j, i < xs.length → j < sz → M'.F (ad.add (i * sz + j)) = some (arr.getD (off + (i * sz + j)) Go.undef)) → RepV M' (.list sz xs .no) (.slice (some ad) xs.length c) := by
      intro ad hm hF
      refine .list sz xs .no ad c (fun i j => arr.getD (off + (i * sz + j)) Go.undef) hF (fun i j => ?_) hl4 h2 hm trivial
      by_cases hi : i < xs.length
      · by_cases hj : j < sz
        · have hb := hin i j hi hj
          rw [← flatten_get sz xs hl4 i j hi hj, ← h3]
          have := a3 (off + (i * sz + j))
          rw [getD_take, if_pos hb.1, getD_drop]
          exact this.mono hle
        · have : (xs.getD i []).getD j .undef = .undef := by
            rw [List.getD_eq_getElem?_getD, List.getElem?_eq_none (by rw [hl4 i hi]; omega)]; rfl
          rw [this]; exact .undef _
      · have : xs.getD i [] = [] := by rw [List.getD_eq_getElem?_getD, List.getElem?_eq_none (by omega)]; rfl
        rw [this]; exact .undef _
    generalize hn : xs.length = nn at hx
    cases hx with
    | rowp _ _ _ _ _ hid hmc hcm =>
      subst hn
      refine fin _ hcm fun i j hi hj => ?_
      have hb := hin i j hi hj
      rw [addr_add]
      show (if _ then _ else _) = _
      rw [if_pos ⟨rfl, rfl⟩]
      have : off + (i * sz + j) < arr.size := by omega
      simp [this]
    | rowp0 _ _ _ b =>
      have hx0 : xs = [] := List.length_eq_zero_iff.1 hn
      subst hx0
      cases b with
      | none => exact .nils _ _ (fun _ e => by cases e)
      | some ad => exact fin ad (by unfold maxLen; omega) fun i j hi => by simp at hi
theorem del_le {st0 s : St} {id : Nat} (h : St.le st0 s) (h0 : st0 id = none) : St.le st0 (s.del id) := le_del h0 h
/-- A row that was made is done. -/
theorem acc_freeze {B : Nat} {w0 w : World} {M : Mem} {st0 s : St} {id off c e sz : Nat} {xs : List (List AV)} (ha : Acc st0 s id off c e sz xs) (hI : Inv B w0 M s w) :
    ∃ M', M.le M' ∧ Inv B w0 M' st0 w ∧ ∀ x, RepV M (.rowp id off sz xs.length c) x → RepV M' (.list sz xs .no) x := by
  rcases ha.ok with ⟨rfl, rfl⟩ | ⟨h0, _, cs, g1, g2, g3, g4, g5, g6⟩
  · refine ⟨M, .refl M, hI.weaken ha.le, fun x hx => ?_⟩
    simp only [List.length_nil] at hx
    generalize hn : (0 : Nat) = nn at hx
    cases hx with
    | rowp => subst hn; exact .list sz [] .no _ 0 (fun _ _ => Go.undef) (fun i j hi => by simp at hi) (fun i j => .undef _) (fun i hi => by simp at hi) (Nat.le_refl _) (by unfold maxLen; omega) trivial
    | rowp0 _ _ _ b =>
      cases b with
      | none => exact .nils _ _ (fun _ e => by cases e)
      | some a => exact .list sz [] .no _ 0 (fun _ _ => Go.undef) (fun i j hi => by simp at hi) (fun i j => .undef _) (fun i hi => by simp at hi) (Nat.le_refl _) (by unfold maxLen; omega) trivial
  · obtain ⟨M', h1, h2, h3⟩ := freeze hI g1
    exact ⟨M', h1, h2.weaken (del_le ha.le h0), h3 off sz c xs g2 g3 g5 g6⟩
theorem gh_row {st0 s : St} {id off c e sz : Nat} {xs : List (List AV)} (ha : Acc st0 s id off c e sz xs) : Gh (.list sz xs .no) st0 (.rowp id off sz xs.length c) s := fun _ _ _ _ hI => acc_freeze ha hI
theorem ghE_row {st0 s : St} {id off c e sz m : Nat} {xs : List (List AV)} (ha : Acc st0 s id off c e sz xs) (hm : m = xs.length) {l : List (Nat × AV)} {env : Env}
    (h : ∀ p ∈ l, AV.sub p.2 (env p.1) ∨ (env p.1 = .rowp id off sz m c ∧ AV.sub p.2 (.list sz xs .no))) : GhE (Env.ofList l) st0 env s := by
  subst hm
  intro B w0 M w hI
  obtain ⟨M', h1, h2, h3⟩ := acc_freeze ha hI
  refine ⟨M', h1, h2, fun d x hx => ?_⟩
  induction l with
  | nil => exact .undef _
  | cons p l ih =>
    obtain ⟨k, v⟩ := p
    simp only [Env.ofList]
    by_cases hd : d = k
    · rw [if_pos hd]
      subst hd
      rcases h (d, v) (by simp) with hh | ⟨h4, h5⟩
      · exact hh M' x (hx.mono h1)
      · rw [h4] at hx
        exact h5 M' x (h3 x hx)
    · rw [if_neg hd]; exact ih fun q hq => h q (by simp [hq])
/-- A call on a row that changes no more. -/
theorem dcall_row {P : Program} {f : FuncId} {args args' : List AV} {st0 s : St} {id off c e sz m : Nat} {xs : List (List AV)} {K : AV → St → Prop} (ha : Acc st0 s id off c e sz xs) (hm : m = xs.length) (hl : args'.length = args.length)
    (h : ∀ j, AV.sub (args'.getD j .undef) (args.getD j .undef) ∨ (args.getD j .undef = .rowp id off sz m c ∧ AV.sub (args'.getD j .undef) (.list sz xs .no))) (hc : dcall P f args' st0 K) : dcall P f args s K := by
  subst hm
  refine dcall_args hl (fun B w0 M w hI => ?_) hc
  obtain ⟨M', h1, h2, h3⟩ := acc_freeze ha hI
  refine ⟨M', h1, h2, fun j x hx => ?_⟩
  rcases h j with hh | ⟨h4, h5⟩
  · exact hh M' x (hx.mono h1)
  · rw [h4] at hx; exact h5 M' x (h3 x hx)

section
variable {P : Program} {n : Nat} {Q : Exit → Env → St → Prop} {env : Env} {st : St} {k : Kont}
theorem dwp_loop_gh {α : Type} {c : Code} (I : α → Env) (S : α → St) (ok : α → Prop) (μ : α → Nat) (x0 : α) (h0 : ok x0) (he : GhE (I x0) (S x0) env st)
    (round : ∀ x, ok x → ∀ K : Env → St → Prop, (∀ y env st, ok y → μ y < μ x → GhE (I y) (S y) env st → K env st) → dwp P n c (thenQ K Q) (I x) (S x)) : dwp P n (.loop c) Q env st := by
  refine dwp_gh he ?_
  intro B w0 M a w hI hE
  refine wpIn_loop_ghost (fun m a w => ∃ x M', m = μ x ∧ ok x ∧ M.lem M' ∧ Inv B w0 M' (S x) w ∧ RepE M' n (I x) a) (μ x0) ⟨x0, M, rfl, h0, .refl M, hI, hE⟩ ?_
  rintro m a' w' ⟨x, M', rfl, hok, hM, hI', hE'⟩
  rw [← hM.ro]
  have := round x hok (fun e s => ∃ y, ok y ∧ μ y < μ x ∧ GhE (I y) (S y) e s) (fun y e s h1 h2 h3 => ⟨y, h1, h2, h3⟩) B w0 M' a' w' hI' hE'
  refine wpIn_mono this fun e a2 w2 hp => ?_
  cases e with
  | normal =>
    obtain ⟨M2, e2, s2, k1, k2, k3, y, k4, k5, k6⟩ := hp
    obtain ⟨M3, j1, j2, j3⟩ := k6 B w0 M2 w2 k2
    exact ⟨μ y, k5, y, M3, rfl, k4, (hM.trans k1).trans j1.lem, j2, ⟨k3.size, k3.defers.trans j1.ds.symm, fun d => j3 d _ (k3.slot d)⟩⟩
  | _ => exact hp.le hM
theorem lk_loop_gh {α : Type} {c : Code} (I : α → Env) (S : α → St) (ok : α → Prop) (μ : α → Nat) (x0 : α) (hc : codeOk n c = true) (h0 : ok x0) (he : GhE (I x0) (S x0) env st)
    (round : ∀ x, ok x → ∀ R : Exit → Env → St → Prop, (∀ y env st, ok y → μ y < μ x → GhE (I y) (S y) env st → R .normal env st) → (∀ e env st, e ≠ .normal → kk P n e k Q env st → R e env st) → vk P n c .base R (I x) (S x)) : lk P n (.loop c) k Q env st := by
  refine dwp_loop_gh I S ok μ x0 h0 he fun x hx K hK => vc_sound c hc ?_
  refine round x hx (thenQ K (QK P n Q k)) (fun y env st h1 h2 h3 => hK y env st h1 h2 h3) fun e env st hne h => ?_
  cases e <;> first | exact absurd rfl hne | exact h
end
end Go.Sh
