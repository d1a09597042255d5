import Derived.Test.YtdhmbpipjdapfaaGreatShBn
import Derived.Test.YtdhmbpipjdapfaaGreatShBg
set_option linter.unusedSimpArgs false
set_option linter.unusedVariables false

namespace Go.Proofs
open Go Go.Sh
set_option maxRecDepth 20000
/-- The edges under construction: in box ob, the history in box hb; told over st. -/
def PutI (st : St) (hb ob : Nat) (h : List Ev) (o : Sh.Own) (l : List Ed) (s : St) : Prop :=
  ∃ st0 ow, Owns st0 44 5 l.length ow s ∧ st0 hb = some (.cells 22 [avH h o]) ∧ st0 ob = some (.cells 36 [avE l ow]) ∧ hb ≠ ob ∧ st ob = none ∧ St.le st st0
theorem PutI.le {st s : St} {hb ob : Nat} {h : List Ev} {o : Sh.Own} {l : List Ed} (hp : PutI st hb ob h o l s) : St.le st s := by
  obtain ⟨st0, ow, h1, _, _, _, _, h2⟩ := hp
  exact fun j y e => owns_le h1 j y (h2 j y e)
theorem PutI.weaken {st st' s : St} {hb ob : Nat} {h : List Ev} {o : Sh.Own} {l : List Ed} (hp : PutI st hb ob h o l s) (k : St.le st' st) : PutI st' hb ob h o l s := by
  obtain ⟨st0, ow, h1, h2, h3, h4, h5, h6⟩ := hp
  refine ⟨st0, ow, h1, h2, h3, h4, ?_, fun j y e => h6 j y (k j y e)⟩
  cases hs : st' ob with
  | none => rfl
  | some y => rw [k _ _ hs] at h5; cases h5
theorem PutI.new {st s : St} {hb ob : Nat} {h : List Ev} {o : Sh.Own} {l : List Ed} (hp : PutI st hb ob h o l s) {x : Nat} (hx : s x = none) (A : AObj) : PutI (st.upd x A) hb ob h o l (s.upd x A) ∧ st x = none := by
  have hle := hp.le
  obtain ⟨st0, ow, h1, h2, h3, h4, h5, h6⟩ := hp
  obtain ⟨k1, k2⟩ := owns_fresh h1 hx
  have e1 : hb ≠ x := fun e => by subst e; rw [k2] at h2; cases h2
  have e2 : ob ≠ x := fun e => by subst e; rw [k2] at h3; cases h3
  refine ⟨⟨st0.upd x A, ow, owns_upd h1 x A k1, by rw [upd_ne _ e1]; exact h2, by rw [upd_ne _ e2]; exact h3, h4, by rw [upd_ne _ e2]; exact h5, fun j y e => ?_⟩, ?_⟩
  · simp only [St.upd] at e ⊢
    split at e
    · rename_i hj; rw [if_pos hj]; exact e
    · rename_i hj; rw [if_neg hj]; exact h6 j y e
  · cases hs : st x with
    | none => rfl
    | some y => rw [h6 _ _ hs] at k2; cases k2
theorem PutI.same {st s : St} {hb ob : Nat} {h : List Ev} {o : Sh.Own} {l : List Ed} {x : Nat} {A : AObj} (hp : PutI (st.upd x A) hb ob h o l (s.upd x A)) (hx : s x = none) (hh : hb ≠ x) (B : AObj) : PutI (st.upd x B) hb ob h o l ((s.upd x A).upd x B) := by
  obtain ⟨st0, ow, h1, h2, h3, h4, h5, h6⟩ := hp
  have e2 : ob ≠ x := fun e => by subst e; rw [upd_eq] at h5; cases h5
  have h0 : st0 x = some A := h6 _ _ (upd_eq _ _ _)
  have hne : ∀ id, ow = .op id → x ≠ id := fun id e => by
    subst e; obtain ⟨k1, _⟩ := h1; exact fun e => by subst e; rw [k1] at h0; cases h0
  refine ⟨st0.upd x B, ow, owns_upd h1 x B hne, by rw [upd_ne _ hh]; exact h2, by rw [upd_ne _ e2]; exact h3, h4, by rw [upd_ne _ e2]; rw [upd_ne _ e2] at h5; exact h5, fun j y e => ?_⟩
  simp only [St.upd] at e ⊢
  split at e
  · rename_i hj; rw [if_pos hj]; exact e
  · rename_i hj; rw [if_neg hj]; exact h6 j y (by rw [upd_ne _ hj]; exact e)
theorem PutI.hb {st s : St} {hb ob : Nat} {h : List Ev} {o : Sh.Own} {l : List Ed} (hp : PutI st hb ob h o l s) : s hb = some (.cells 22 [avH h o]) := by
  obtain ⟨st0, ow, h1, h2, h3, h4, h5, h6⟩ := hp
  exact owns_le h1 _ _ h2
theorem PutI.ob {st s : St} {hb ob : Nat} {h : List Ev} {o : Sh.Own} {l : List Ed} (hp : PutI st hb ob h o l s) : ∃ ow, s ob = some (.cells 36 [avE l ow]) := by
  obtain ⟨st0, ow, h1, h2, h3, h4, h5, h6⟩ := hp
  exact ⟨ow, owns_le h1 _ _ h3⟩
def putE (h : List Ev) (kind i k : Int) : List Ed :=
  if (h.getD i.toNat default).txn ≠ (h.getD k.toNat default).txn then [⟨kind, (h.getD i.toNat default).txn, (h.getD k.toNat default).txn, i, k⟩] else []
theorem put_c (h : List Ev) (o : Sh.Own) (kind i k : Int) (hi : 0 ≤ i ∧ i < h.length) (hk : 0 ≤ k ∧ k < h.length) {hb ob : Nat} {st s : St} {l : List Ed} (hl : l.length ≤ 1099511627776) (hp : PutI st hb ob h o l s) {K : AV → St → Prop}
    (hK : ∀ s', PutI st hb ob h o (l ++ putE h kind i k) s' → K (.tup []) s') : dcall Tryz.prog 106 [.int .i64 kind, .int .i64 i, .int .i64 k, .box hb 0, .box ob 0] s K := by
  obtain ⟨i, rfl⟩ : ∃ n : Nat, i = n := ⟨i.toNat, by omega⟩
  obtain ⟨k, rfl⟩ : ∃ n : Nat, k = n := ⟨k.toNat, by omega⟩
  have hi' : i < h.length := by omega
  have hk' : k < h.length := by omega
  have hhb := cellsAt_of hp.hb
  refine dcall_of_dwp Tryz.func106 rfl (by kernel_rfl) (by simp [Tryz.ntmps106]) ?_
  rw [Tryz.ntmps106]
  refine dwp_of_vk (by kernel_rfl) ?_
  simp
  refine lk_draw mixed (List.replicate 11 []) [] (by kernel_rfl) ?_
  simp [hhb, hi', hk']
  by_cases ht : h[i].txn = h[k].txn
  · simp [ht, Tryz.results106]
    exact fin (hK s (by simpa [putE, hi', hk', ht] using hp))
  · simp [ht]
    have hpe : putE h kind i k = [⟨kind, h[i].txn, h[k].txn, i, k⟩] := by simp [putE, hi', hk', ht]
    rw [hpe] at hK
    obtain ⟨st0, ow, h1, h2, h3, h4, h5, h6⟩ := hp
    have hob := cellsAt_of (owns_le h1 _ _ h3)
    refine lk_draw mixed (List.replicate 18 []) [] (by kernel_rfl) ?_
    have hb1 : (l.length + 1) * 40 ≤ 140737488355328 := by omega
    have hb2 : l.length ≤ 9223372036854775806 := by omega
    simp [hhb, hi', hk', hob, hb1, hb2]
    refine tkApp_intro st0 (by simpa using h1) fun o' s' ho => ?_
    have hob' := cellsAt_of (owns_le ho _ _ h3)
    simp [hob', Tryz.results106]
    have hne : ∀ id, o' = .op id → ob ≠ id := fun id e => by
      subst e; obtain ⟨k1, _⟩ := ho; exact fun e => by subst e; rw [k1] at h3; cases h3
    refine fin (hK _ ⟨st0.upd ob _, o', by simpa using owns_upd ho ob _ hne, by rw [upd_ne _ h4]; exact h2, by rw [upd_eq]; simp, h4, h5, fun j y e => ?_⟩)
    rw [upd_ne]
    · exact h6 j y e
    · intro e'; subst e'; rw [h5] at e; cases e
end Go.Proofs

namespace Go.Proofs
open Go Go.Sh
set_option maxRecDepth 20000
theorem putE_length (h : List Ev) (k i j : Int) : (putE h k i j).length ≤ 1 := by unfold putE; split <;> simp
/-- The edges from version to version, up to the n-th. -/
def wrE (h : List Ev) (v : List Int) : Nat → List Ed
  | 0 => []
  | n + 1 => wrE h v n ++ putE h 1 (v.getD n default) (v.getD (n + 1) default)
theorem wrE_length (h : List Ev) (v : List Int) : ∀ n, (wrE h v n).length ≤ n
  | 0 => by simp [wrE]
  | n + 1 => by
    have h1 := wrE_length h v n
    have h2 := putE_length h 1 (v.getD n default) (v.getD (n + 1) default)
    simp only [wrE, List.length_append]; omega
def outerE (h : List Ev) (i : Nat) : Bool := countsE h i && decide (lastOf h (h.getD i default).txn (h.getD i default).key i < 0)
/-- A read's edges. -/
def rdE (h : List Ev) (key : ByteArray) (v : List Int) (i : Nat) : List Ed :=
  if (h.getD i default).key ≠ key ∨ outerE h i = false then [] else
  let n := idxOf v fun k => decide ((h.getD k.toNat default).val = (h.getD i default).val)
  if n < 0 ∧ (h.getD i default).val ≠ ⟨#[]⟩ then [] else
  (if 0 ≤ n then putE h 2 (v.getD n.toNat default) i else []) ++ (if n + 1 < v.length then putE h 3 i (v.getD (n + 1).toNat default) else [])
theorem rdE_length (h : List Ev) (key : ByteArray) (v : List Int) (i : Nat) : (rdE h key v i).length ≤ 2 := by
  unfold rdE
  split
  · simp
  · simp only
    split
    · simp
    · rw [List.length_append]
      have h1 := putE_length h 2 (v.getD (idxOf v fun k => decide ((h.getD k.toNat default).val = (h.getD i default).val)).toNat default) i
      have h2 := putE_length h 3 i (v.getD ((idxOf v fun k => decide ((h.getD k.toNat default).val = (h.getD i default).val)) + 1).toNat default)
      split <;> split <;> (try simp only [List.length_nil]) <;> omega
def rdTo (h : List Ev) (key : ByteArray) (v : List Int) : Nat → List Ed
  | 0 => []
  | n + 1 => rdTo h key v n ++ rdE h key v n
theorem rdTo_length (h : List Ev) (key : ByteArray) (v : List Int) : ∀ n, (rdTo h key v n).length ≤ 2 * n
  | 0 => by simp [rdTo]
  | n + 1 => by
    have h1 := rdTo_length h key v n
    have h2 := rdE_length h key v n
    simp only [rdTo, List.length_append]; omega
def edgesOf (h : List Ev) (key : ByteArray) : List Ed := wrE h (versionsOf h key) ((versionsOf h key).length - 1) ++ rdTo h key (versionsOf h key) h.length
theorem edgesOf_length (h : List Ev) (key : ByteArray) : (edgesOf h key).length ≤ 3 * h.length := by
  unfold edgesOf
  have h1 := wrE_length h (versionsOf h key) ((versionsOf h key).length - 1)
  have h2 := rdTo_length h key (versionsOf h key) h.length
  have h3 := versions_length h key
  rw [List.length_append]; omega
theorem edgesOf_c (h : List Ev) (hl : h.length ≤ 1073741824) (o : Sh.Own) (key : ByteArray) : PureC Tryz.prog 75 [avH h o, .str key] (avE (edgesOf h key) .no) := by
  refine pure_of_dwp Tryz.func75 rfl (by kernel_rfl) (by simp [Tryz.ntmps75]) fun st K hK => ?_
  rw [Tryz.ntmps75]
  refine dwp_of_vk (by kernel_rfl) ?_
  have hvi : ∀ k ∈ versionsOf h key, 0 ≤ k ∧ k < h.length := fun k => versions_in
  have hvl := versions_length h key
  have hdef : edgesOf h key = wrE h (versionsOf h key) ((versionsOf h key).length - 1) ++ rdTo h key (versionsOf h key) h.length := rfl
  have hver := versions_c h (by omega) o key
  rw [hdef] at hK
  clear hdef
  generalize versionsOf h key = v at *
  simp
  refine newK_intro fun hb hhb => ?_
  simp
  refine newK_intro fun ob hob => ?_
  simp only [upd_none_iff] at hob
  obtain ⟨hne, hob⟩ := hob
  have hne' := Ne.symm hne
  simp [hne']
  refine callK_pure hver ?_
  simp
  refine lk_gh (ghE_cell (p := ob) (t := 36) (cs := [.list 0 [] .clip]) (cs' := [avE [] .clip]) (by simp) rfl (sub_cons (AV.sub.nil _ _ _ _ (.inr ⟨rfl, rfl⟩)) sub_nil)) ?_
  generalize hS0 : ((st.upd hb (.cells 22 [avH h o])).upd ob (.cells 36 [.list 0 [] .clip])).upd ob (.cells 36 [avE [] .clip]) = S0
  have hp0 : PutI st hb ob h o [] S0 := ⟨S0, .clip, rfl, by simp [← hS0, hne'], by simp [← hS0], hne', hob, by rw [← hS0]; exact le_right hob (le_right hob (le_right hhb (.refl _)))⟩
  refine lk_loop (α := Nat × St) (fun x => Env.ofList [(1, .str key), (2, .box hb 0), (5, .box ob 0), (6, .fn 106 [.box hb 0, .box ob 0]), (7, avI v .no), (8, .int .i64 (x.1 + 1 : Nat))]) (fun x => x.2)
    (fun x => (x.1 = 0 ∨ x.1 + 1 ≤ v.length) ∧ PutI st hb ob h o (wrE h v x.1) x.2) (fun x => v.length - x.1) (0, S0) (by kernel_rfl) ⟨.inl rfl, hp0⟩ (Env.sub_ofList (by simp)) (.refl _) ?_
  rintro ⟨n, s⟩ ⟨hn, hp⟩ R hR hX
  simp only at hn hp
  simp
  by_cases hlt : n + 1 < v.length
  · have hw : IntKind.i64.wrap (↑n + 1 + 1) = ↑n + 1 + 1 := wrap_i64 (by omega) (by omega)
    have hlt' : ((n : Int) + 1 < v.length) := by omega
    simp [hlt']
    refine lk_draw1 mixed (List.replicate 11 []) [] 10 (by kernel_rfl) ?_
    have hw0 : IntKind.i64.wrap ↑n = ↑n := wrap_i64 (by omega) (by omega)
    have hn1 : n < v.length := by omega
    have h0n : (0 : Int) ≤ ↑n + 1 := by omega
    simp [hlt', hlt, hw0, hn1, h0n]
    have hwl := wrE_length h v n
    refine callK_intro (put_c h o 1 v[n] v[n + 1] (hvi _ (List.getElem_mem hn1)) (hvi _ (List.getElem_mem hlt)) (by omega) hp fun s' hp' => ?_)
    have hb : wrE h v (n + 1) = wrE h v n ++ putE h 1 v[n] v[n + 1] := by simp [wrE, hn1, hlt]
    simp [hw]
    refine hR (n + 1, s') _ _ ⟨.inr hlt, by rw [hb]; exact hp'⟩ (by simp; omega) (Env.sub_ofList (by simp [hw])) (.refl _)
  · have hlt' : ¬ ((n : Int) + 1 < v.length) := by omega
    have hnv : n = v.length - 1 := by omega
    subst hnv
    simp [hlt', hlt]
    refine hX _ _ _ (by simp) ?_
    clear hR hX
    have hhb' := cellsAt_of hp.hb
    simp [hhb']
    refine lk_loop (α := Nat × St) (fun x => Env.ofList [(1, .str key), (2, .box hb 0), (5, .box ob 0), (6, .fn 106 [.box hb 0, .box ob 0]), (7, avI v .no), (33, .int .i64 h.length), (34, .int .i64 x.1)]) (fun x => x.2)
      (fun x => x.1 ≤ h.length ∧ PutI st hb ob h o (wrE h v (v.length - 1) ++ rdTo h key v x.1) x.2) (fun x => h.length - x.1) (0, s) (by kernel_rfl) ⟨Nat.zero_le _, by simpa [rdTo] using hp⟩ (Env.sub_ofList (by simp)) (.refl _) ?_
    have hwl := wrE_length h v (v.length - 1)
    generalize wrE h v (v.length - 1) = ws at *
    clear hp hp0 hhb' hn
    rintro ⟨i, s⟩ ⟨hi, hp⟩ R hR hX
    simp only at hi hp
    have hrl := rdTo_length h key v i
    have hbb := cellsAt_of hp.hb
    simp
    by_cases hih : i < h.length
    · have hwi : IntKind.i64.wrap (↑i + 1) = ↑i + 1 := wrap_i64 (by omega) (by omega)
      simp [hih]
      refine newK_intro fun x hx => ?_
      obtain ⟨hp1, hx0⟩ := hp.new hx (.cells 3 [.int .i64 0])
      have hxb : hb ≠ x := fun e => by subst e; rw [hp.hb] at hx; cases hx
      have hp2 := hp1.same hx hxb (.cells 3 [.int .i64 i])
      simp [hxb, hbb, hih]
      have hgi : h.getD i default = h[i] := by simp [hih]
      have hnext : ∀ (env : Env) (s' : St) (ex : List Ed), rdE h key v i = ex → PutI (st.upd x (.cells 3 [.int .i64 i])) hb ob h o ((ws ++ rdTo h key v i) ++ ex) s' → Env.sub (Env.ofList [(1, .str key), (2, .box hb 0), (5, .box ob 0), (6, .fn 106 [.box hb 0, .box ob 0]), (7, avI v .no), (33, .int .i64 h.length), (34, .int .i64 (i + 1 : Nat))]) env → R .normal env s' := by
        rintro env s' ex rfl hp' he
        exact hR (i + 1, s') env s' ⟨hih, by simpa [rdTo] using hp'.weaken (le_right hx0 (.refl _))⟩ (by simp; omega) he (.refl _)
      clear hR
      by_cases hkey : h[i].key = key
      · simp [hkey, hxb, hbb, hih]
        refine callK_pure (r := .bool (outerE h i)) (by rw [outerE, hgi]; exact outer_c h (by omega) o i hih) ?_
        cases ho : outerE h i
        · simp [hwi]
          refine hnext _ _ [] ?_ (by simpa using hp2) (Env.sub_ofList (by simp [hwi]))
          unfold rdE
          rw [if_pos (.inr ho)]
        · simp [hxb]
          have hrd : ∀ N, (idxOf v fun k => decide ((h.getD k.toNat default).val = h[i].val)) = N → rdE h key v i = if N < 0 ∧ h[i].val ≠ ⟨#[]⟩ then [] else
              (if 0 ≤ N then putE h 2 (v.getD N.toNat default) i else []) ++ (if N + 1 < v.length then putE h 3 i (v.getD (N + 1).toNat default) else []) := by
            rintro N rfl
            unfold rdE
            rw [hgi, if_neg (by simp [hkey, ho])]
          have h1hb := hp2.hb
          refine callK_intro (idxI_c v (by omega) .no 110 [.box hb 0, .box x 0] (fun k => decide ((h.getD k.toNat default).val = h[i].val)) (fun e he K' hk => sameVal_c h o e i (hvi e he) hih h1hb (upd_eq _ _ _) hk) ?_)
          have hNge := idxOf_ge v fun k => decide ((h.getD k.toNat default).val = h[i].val)
          have hNlt := idxOf_lt v fun k => decide ((h.getD k.toNat default).val = h[i].val)
          replace hrd := hrd _ rfl
          generalize (idxOf v fun k => decide ((h.getD k.toNat default).val = h[i].val)) = N at *
          have hbl : (ws ++ rdTo h key v i).length ≤ 1099511627776 - 8 := by rw [List.length_append]; omega
          by_cases hN : N < 0
          · obtain rfl : N = -1 := by omega
            rw [show (-1 : Int) + 1 = 0 by omega, if_neg (show ¬ (0 : Int) ≤ -1 by omega), List.nil_append] at hrd
            simp [hxb, hbb, hih]
            by_cases hval : h[i].val = ⟨#[]⟩
            · rw [if_neg (by simp [hval])] at hrd
              simp [hval]
              have hw00 : IntKind.i64.wrap 0 = 0 := wrap_i64 (by omega) (by omega)
              by_cases hv0 : 0 < v.length
              · rw [if_pos (by omega)] at hrd
                simp [hw00, hv0]
                refine lk_draw1 mixed (List.replicate 8 []) [] 7 (by kernel_rfl) ?_
                simp [hw00, hv0, hxb]
                refine callK_intro (put_c h o 3 i v[0] ⟨by omega, by omega⟩ (hvi _ (List.getElem_mem hv0)) (by omega) hp2 fun s' hp' => ?_)
                simp [hwi]
                exact hnext _ _ _ hrd (by simpa [hv0] using hp') (Env.sub_ofList (by simp [hwi]))
              · rw [if_neg (by omega)] at hrd
                simp [hw00, hv0, hwi]
                exact hnext _ _ [] hrd (by simpa using hp2) (Env.sub_ofList (by simp [hwi]))
            · rw [if_pos (by simp [hval])] at hrd
              simp [hval, hwi]
              exact hnext _ _ [] hrd (by simpa using hp2) (Env.sub_ofList (by simp [hwi]))
          · obtain ⟨n, rfl⟩ : ∃ n : Nat, N = n := ⟨N.toNat, by omega⟩
            have hn : n < v.length := by omega
            rw [if_neg (by omega), if_pos (by omega)] at hrd
            have hwn : IntKind.i64.wrap (↑n + 1) = ↑n + 1 := wrap_i64 (by omega) (by omega)
            have hnn : ¬ ((n : Int) < 0) := by omega
            have hnp : (0 : Int) ≤ ↑n := by omega
            simp [hxb, hbb, hih, hnn, hnp, hwn]
            refine lk_draw1 mixed (List.replicate 7 []) [] 6 (by kernel_rfl) ?_
            simp [hn, hxb]
            refine callK_intro (put_c h o 2 v[n] i (hvi _ (List.getElem_mem hn)) ⟨by omega, by omega⟩ (by omega) hp2 fun s' hp' => ?_)
            have hx' : s' x = some (.cells 3 [.int .i64 i]) := hp'.le _ _ (upd_eq _ _ _)
            have hpl := putE_length h 2 v[n] i
            have hp3 : PutI (st.upd x (.cells 3 [.int .i64 i])) hb ob h o ((ws ++ rdTo h key v i) ++ putE h 2 v[n] i) s' := hp'
            simp [hwn]
            by_cases hv1 : n + 1 < v.length
            · have hv1' : (n : Int) + 1 < v.length := by omega
              have h0n : (0 : Int) ≤ ↑n + 1 := by omega
              rw [if_pos hv1'] at hrd
              simp [hv1', hv1]
              refine lk_draw1 mixed (List.replicate 8 []) [] 7 (by kernel_rfl) ?_
              simp [hwn, hv1', hv1, h0n, cellsAt_of hx']
              refine callK_intro (put_c h o 3 i v[n + 1] ⟨by omega, by omega⟩ (hvi _ (List.getElem_mem hv1)) (by rw [List.length_append]; omega) hp3 fun s'' hp'' => ?_)
              simp [hwi]
              have h1n : ((n : Int) + 1).toNat = n + 1 := by omega
              exact hnext _ _ _ hrd (by simpa [hn, hv1, h1n] using hp'') (Env.sub_ofList (by simp [hwi]))
            · rw [if_neg (by omega)] at hrd
              have hv1' : ¬ ((n : Int) + 1 < v.length) := by omega
              simp [hv1', hv1, hwi]
              exact hnext _ _ _ hrd (by simpa [hn] using hp3) (Env.sub_ofList (by simp [hwi]))
      · simp [hkey, hwi]
        refine hnext _ _ [] ?_ (by simpa using hp2) (Env.sub_ofList (by simp [hwi]))
        unfold rdE
        rw [hgi, if_pos (.inl hkey)]
    · have hie : i = h.length := by omega
      subst hie
      simp
      refine hX _ _ _ (by simp) ?_
      obtain ⟨ow, hob'⟩ := hp.ob
      simp [cellsAt_of hob', Tryz.results75]
      exact fin' (AV.sub.list_of_eq (by simp)) hp.le hK
end Go.Proofs

namespace Go.Proofs
open Go Go.Sh
set_option maxRecDepth 20000
theorem mergeS_perm {l l' : List (List UInt8)} (h : l.Perm l') : (l.mergeSort fun x y => decide (x ≤ y)) = l'.mergeSort fun x y => decide (x ≤ y) := by
  have hs : ∀ l : List (List UInt8), (l.mergeSort fun x y => decide (x ≤ y)).Pairwise fun x y => x ≤ y := fun l => by
    have := List.pairwise_mergeSort (le := fun x y : List UInt8 => decide (x ≤ y)) (fun a b c h1 h2 => decide_eq_true (List.le_trans (of_decide_eq_true h1) (of_decide_eq_true h2))) (fun a b => by
      rcases List.le_total a b with h | h
      · rw [decide_eq_true h]; rfl
      · rw [decide_eq_true h, Bool.or_true]) l
    exact this.imp fun h => of_decide_eq_true h
  exact List.Perm.eq_of_pairwise (le := fun x y : List UInt8 => x ≤ y) (fun a b _ _ h1 h2 => List.le_antisymm h1 h2) (hs l) (hs l') (((List.mergeSort_perm _ _).trans h).trans (List.mergeSort_perm _ _).symm)
theorem sortS_perm {l l' : List ByteArray} (h : l.Perm l') : sortS l = sortS l' := by
  unfold sortS
  rw [mergeS_perm (h.map toL)]
theorem sortI_sorted (l : List Int) : (sortI l).Pairwise fun x y => x ≤ y := by
  have := List.pairwise_mergeSort (le := fun x y : Int => decide (x ≤ y)) (fun a b c h1 h2 => by simp at *; omega) (fun a b => by simp; omega) l
  exact this.imp fun h => by simpa using h
theorem sortI_isPerm (l : List Int) : (sortI l).Perm l := List.mergeSort_perm _ _
theorem sortI_perm {l l' : List Int} (h : l.Perm l') : sortI l = sortI l' :=
  List.Perm.eq_of_pairwise (le := fun x y : Int => x ≤ y) (fun a b _ _ h1 h2 => by omega) (sortI_sorted l) (sortI_sorted l') (((sortI_isPerm l).trans h).trans (sortI_isPerm l').symm)
/-- The keys, as a map's entries, of the first n events. -/
def keysTo (h : List Ev) : Nat → List (ByteArray × AV)
  | 0 => []
  | n + 1 => if (h.getD n default).kind = 2 ∨ (h.getD n default).kind = 3 then aset (keysTo h n) (h.getD n default).key (.bool true) else keysTo h n
theorem aset_length {α β : Type} [DecidableEq α] (l : List (α × β)) (a : α) (v : β) : (aset l a v).length ≤ l.length + 1 := by
  have := congrArg List.length (aset_keys l a v)
  rw [List.length_map] at this
  rw [this]
  split <;> simp
theorem keysTo_length (h : List Ev) : ∀ n, (keysTo h n).length ≤ n
  | 0 => by simp [keysTo]
  | n + 1 => by
    have h1 := keysTo_length h n
    have h2 := aset_length (keysTo h n) (h.getD n default).key (.bool true)
    unfold keysTo
    split <;> omega
def keysOf (h : List Ev) : List ByteArray := sortS ((keysTo h h.length).map (·.1))
theorem keysOf_length (h : List Ev) : (keysOf h).length ≤ h.length := by
  unfold keysOf
  rw [sortS_length, List.length_map]
  exact keysTo_length h _
theorem keys_c (h : List Ev) (hl : h.length ≤ 1073741824) (o : Sh.Own) : PureC Tryz.prog 74 [avH h o] (.list 1 ((keysOf h).map celS) .no) := by
  refine pure_of_dwp Tryz.func74 rfl (by kernel_rfl) (by simp [Tryz.ntmps74]) fun st K hK => ?_
  rw [Tryz.ntmps74]
  refine dwp_of_vk (by kernel_rfl) ?_
  simp
  refine mnew_intro (fun s : ByteArray => .str s) fun m s0 hm0 hm hfr => ?_
  simp
  have hle0 : St.le st s0 := fun j y e => by rw [hfr j (fun e' => by subst e'; rw [hm0] at e; cases e)]; exact e
  refine lk_loop (α := Nat × St) (fun x => Env.ofList [(3, .map m), (7, avH h o), (8, .int .i64 h.length), (9, .int .i64 x.1)]) (fun x => x.2)
    (fun x => x.1 ≤ h.length ∧ St.le st x.2 ∧ isMap x.2 m (fun s : ByteArray => .str s) (keysTo h x.1)) (fun x => h.length - x.1) (0, s0) (by kernel_rfl) ⟨Nat.zero_le _, hle0, hm⟩ (Env.sub_ofList (by simp)) (.refl _) ?_
  clear hm hle0 hfr
  rintro ⟨i, s⟩ ⟨hi, hle, hm⟩ R hR hX
  simp only at hi hle hm
  simp
  by_cases hlt : i < h.length
  · have hw : IntKind.i64.wrap (↑i + 1) = ↑i + 1 := wrap_i64 (by omega) (by omega)
    simp [hlt]
    refine newK_intro fun x hx => ?_
    have hgi : h.getD i default = h[i] := by simp [hlt]
    obtain ⟨mo, hmo⟩ := hm.some
    have hmx : m ≠ x := fun e => by subst e; rw [hmo] at hx; cases hx
    have hx0 : st x = none := by
      cases hs : st x with
      | none => rfl
      | some y => rw [hle _ _ hs] at hx; cases hx
    simp
    have hst0 : st m = none := hm0
    have hm2 : ∀ A B, isMap ((s.upd x A).upd x B) m (fun s : ByteArray => .str s) (keysTo h i) := fun A B => hm.frame (by rw [upd_ne _ hmx, upd_ne _ hmx])
    have hle2 : ∀ A B, St.le st ((s.upd x A).upd x B) := fun A B => le_right hx0 (le_right hx0 hle)
    have hle3 : ∀ A B s1, (∀ j, j ≠ m → s1 j = ((s.upd x A).upd x B) j) → St.le st s1 := fun A B s1 hf j y e => by
      rw [hf j (fun e' => by subst e'; rw [hst0] at e; cases e)]; exact hle2 A B j y e
    by_cases h2 : h[i].kind = 2
    · simp [h2]
      refine mset_intro strK (hm2 _ _) fun s1 hs1 hf => ?_
      simp [hw]
      exact hR (i + 1, s1) _ _ ⟨hlt, hle3 _ _ s1 hf, by simpa only [keysTo, hgi, if_pos (show h[i].kind = 2 ∨ h[i].kind = 3 from .inl h2)] using hs1⟩ (by simp; omega) (Env.sub_ofList (by simp [hw])) (.refl _)
    · by_cases h3 : h[i].kind = 3
      · simp [h3]
        refine mset_intro strK (hm2 _ _) fun s1 hs1 hf => ?_
        simp [hw]
        exact hR (i + 1, s1) _ _ ⟨hlt, hle3 _ _ s1 hf, by simpa only [keysTo, hgi, if_pos (show h[i].kind = 2 ∨ h[i].kind = 3 from .inr h3)] using hs1⟩ (by simp; omega) (Env.sub_ofList (by simp [hw])) (.refl _)
      · simp [h2, h3, hw]
        refine hR (i + 1, s) _ _ ⟨hlt, hle, ?_⟩ (by simp; omega) (Env.sub_ofList (by simp [hw])) (le_right hx (le_right hx (.refl _)))
        show isMap s m _ (keysTo h (i + 1))
        rw [keysTo, hgi, if_neg (by simp [h2, h3])]; exact hm
  · simp [hlt]
    refine hX _ _ _ (by simp) ?_
    have : i = h.length := by omega
    subst this
    simp
    refine callK_intro (keysS_c m fun a ha => ?_)
    simp
    have hma : m ≠ a := fun e => by
      subst e; obtain ⟨mo, hmo⟩ := hm.some; rw [hmo] at ha; cases ha
    have hkl := keysTo_length h h.length
    refine callK_intro (sortedS_c (keysS1_c (keysTo h h.length) (a := a) (m := m) (upd_eq _ _ _) (hm.frame (upd_ne _ hma _))) (okFn_of Tryz.func127 (by kernel_rfl) (by kernel_rfl)) (by omega) (fun vis hv => by rw [hv.length_eq]; simp) fun vis hv => ?_)
    have hx0 : st a = none := by
      cases hs : st a with
      | none => rfl
      | some y => rw [hle _ _ hs] at ha; cases ha
    rw [sortS_perm hv]
    simp [Tryz.results74]
    exact fin' (.refl _) (le_right hx0 hle) hK
end Go.Proofs

namespace Go.Proofs
open Go Go.Sh
set_option maxRecDepth 20000
def allTo (h : List Ev) (n : Nat) : List Ed := ((keysOf h).take n).flatMap (edgesOf h)
def allE (h : List Ev) : List Ed := (keysOf h).flatMap (edgesOf h)
theorem allTo_length (h : List Ev) : ∀ n, (allTo h n).length ≤ n * (3 * h.length)
  | 0 => by simp [allTo]
  | n + 1 => by
    have ih := allTo_length h n
    unfold allTo at *
    by_cases hn : n < (keysOf h).length
    · have := edgesOf_length h (keysOf h)[n]
      rw [List.take_succ_eq_append_getElem hn, List.flatMap_append, List.length_append, Nat.succ_mul]
      simp only [List.flatMap_cons, List.flatMap_nil, List.append_nil]
      omega
    · rw [List.take_of_length_le (by omega)] at ih ⊢
      rw [Nat.succ_mul]; omega
theorem all_ones {l : List Ed} : (l.all ((fun y => y.all AV.one) ∘ encEd)) = true := by simp [AV.one]
theorem allE_length (h : List Ev) : (allE h).length ≤ h.length * (3 * h.length) := by
  have h1 := allTo_length h (keysOf h).length
  have h2 := keysOf_length h
  unfold allTo at h1
  rw [List.take_length] at h1
  exact Nat.le_trans h1 (Nat.mul_le_mul_right _ h2)
theorem allE_c (h : List Ev) (hl : h.length ≤ 4096) (o : Sh.Own) : PureC Tryz.prog 41 [avH h o] (avE (allE h) .no) := by
  intro st K hK
  refine dcall_gh (K' := fun v s => ∃ id off c, v = .rowp id off 5 (allE h).length c ∧ Acc st s id off c 44 5 ((allE h).map encEd)) ?_ ?_
  · rintro v s ⟨id, off, c, rfl, h2⟩
    refine ⟨_, _, ?_, hK⟩
    have := gh_row h2
    simpa using this
  refine dcall_of_dwp Tryz.func41 rfl (by kernel_rfl) (by simp [Tryz.ntmps41]) ?_
  rw [Tryz.ntmps41]
  refine dwp_of_vk (by kernel_rfl) ?_
  simp
  refine callK_pure (keys_c h (by omega) o) ?_
  have hkl := keysOf_length h
  simp
  refine lk_loop (α := Nat × Nat × Nat × Nat × St) (fun x => Env.ofList [(0, avH h o), (3, .rowp x.2.1 x.2.2.1 5 (allTo h x.1).length x.2.2.2.1), (7, .list 1 ((keysOf h).map celS) .no), (8, .int .i64 (keysOf h).length), (9, .int .i64 x.1)]) (fun x => x.2.2.2.2)
    (fun x => x.1 ≤ (keysOf h).length ∧ Acc st x.2.2.2.2 x.2.1 x.2.2.1 x.2.2.2.1 44 5 ((allTo h x.1).map encEd)) (fun x => (keysOf h).length - x.1) (0, 0, 0, 0, st) (by kernel_rfl) ⟨Nat.zero_le _, Acc.nil ..⟩ (Env.sub_ofList (by simp [allTo, sub_rowp])) (.refl _) ?_
  rintro ⟨i, id, off, c, s⟩ ⟨hi, ha⟩ R hR hX
  simp only at hi ha
  have hall : allE h = allTo h (keysOf h).length := by unfold allE allTo; rw [List.take_length]
  have hsucc : ∀ i (hi : i < (keysOf h).length), allTo h (i + 1) = allTo h i ++ edgesOf h (keysOf h)[i] := fun i hi => by
    unfold allTo; rw [List.take_succ_eq_append_getElem hi, List.flatMap_append]; simp
  have hlen := allTo_length h
  generalize keysOf h = ks at *
  simp
  by_cases hlt : i < ks.length
  · have hw : IntKind.i64.wrap (↑i + 1) = ↑i + 1 := wrap_i64 (by omega) (by omega)
    simp [hlt]
    refine callK_pure (edgesOf_c h (by omega) o ks[i]) ?_
    have hl1 := hlen i
    have hl2 := edgesOf_length h ks[i]
    have hl3 : i * (3 * h.length) ≤ 4096 * (3 * 4096) := Nat.mul_le_mul (by omega) (by omega)
    have hb1 : ((allTo h i).length + (edgesOf h ks[i]).length) * 40 ≤ 140737488355328 := by omega
    have hb2 : (allTo h i).length + (edgesOf h ks[i]).length ≤ 9223372036854775807 := by omega
    simp [-AV.one, -List.all_eq_true, all_ones, hb1, hb2]
    refine appr_intro (ys := (edgesOf h ks[i]).map encEd) ha (by simp) (fun y hy => by obtain ⟨e, _, rfl⟩ := List.mem_map.1 hy; rfl) fun id' off' c' s' ha' _ => ?_
    have hs := hsucc i hlt
    simp [hw]
    refine hR (i + 1, id', off', c', s') _ _ ⟨hlt, by rw [hs, List.map_append]; exact ha'⟩ (by simp; omega) (Env.sub_ofList (by simp [hw, hs])) (.refl _)
  · simp [hlt]
    refine hX _ _ _ (by simp) ?_
    have : i = ks.length := by omega
    subst this
    simp [Tryz.results41]
    exact fin ⟨id, off, c, by rw [hall], by rw [hall]; exact ha⟩
def nodesTo (l : List Lf) (n : Nat) : List Int := ((l.take n).filter (·.com)).map (·.txn)
def nodesOf (h : List Ev) : List Int := sortI ((comLives h).map (·.txn))
theorem nodesTo_length (l : List Lf) (n : Nat) : (nodesTo l n).length ≤ l.length := by
  unfold nodesTo
  rw [List.length_map]
  exact Nat.le_trans (List.length_filter_le _ _) (by simp; omega)
theorem nodesOf_length (h : List Ev) : (nodesOf h).length ≤ h.length := by
  unfold nodesOf
  rw [sortI_length, List.length_map]
  exact Nat.le_trans (List.length_filter_le _ _) (livesAll_length h)
theorem nodes_c (h : List Ev) (hl : h.length ≤ 1073741824) (o : Sh.Own) : PureC Tryz.prog 43 [avH h o] (avI (nodesOf h) .no) := by
  intro st K hK
  refine dcall_gh (K' := fun v s => ∃ id off c, v = .rowp id off 1 (nodesOf h).length c ∧ Acc st s id off c 3 1 ((nodesOf h).map celI)) ?_ ?_
  · rintro v s ⟨id, off, c, rfl, h2⟩
    refine ⟨_, _, ?_, hK⟩
    have := gh_row h2
    simpa using this
  refine dcall_of_dwp Tryz.func43 rfl (by kernel_rfl) (by simp [Tryz.ntmps43]) ?_
  rw [Tryz.ntmps43]
  refine dwp_of_vk (by kernel_rfl) ?_
  simp
  refine callK_intro (lives_row h (by omega) o fun id off c s ha => ?_)
  have hla := livesAll_length h
  have hnode : nodesOf h = sortI (nodesTo (livesAll h) (livesAll h).length) := by unfold nodesOf nodesTo comLives; rw [List.take_length]
  rw [hnode]
  generalize livesAll h = l at *
  simp
  refine lk_loop_gh (α := Nat × Nat × Nat × Nat × St) (fun x => Env.ofList [(3, .rowp x.2.1 x.2.2.1 1 (nodesTo l x.1).length x.2.2.2.1), (7, .list 4 (l.map encLf) .no), (8, .int .i64 l.length), (9, .int .i64 x.1)]) (fun x => x.2.2.2.2)
    (fun x => x.1 ≤ l.length ∧ Acc st x.2.2.2.2 x.2.1 x.2.2.1 x.2.2.2.1 3 1 ((nodesTo l x.1).map celI)) (fun x => l.length - x.1) (0, 0, 0, 0, st) (by kernel_rfl) ⟨Nat.zero_le _, Acc.nil ..⟩ (ghE_row (m := l.length) ha (by simp) (by simp [nodesTo, sub_rowp])) ?_
  rintro ⟨i, id, off, c, s⟩ ⟨hi, ha⟩ R hR hX
  simp only at hi ha
  have hnl := nodesTo_length l i
  simp
  by_cases hlt : i < l.length
  · have hw : IntKind.i64.wrap (↑i + 1) = ↑i + 1 := wrap_i64 (by omega) (by omega)
    have hs : nodesTo l (i + 1) = nodesTo l i ++ if l[i].com then [l[i].txn] else [] := by
      unfold nodesTo
      rw [List.take_succ_eq_append_getElem hlt, List.filter_append, List.map_append]
      cases hc : l[i].com <;> simp [hc]
    simp [hlt]
    refine newK_intro fun x hx => ?_
    have ha2 := (ha.new hx (.cells 32 [.int .i64 0, .int .i64 0, .int .i64 0, .bool false])).new_same hx (ha.fresh hx) (ha.none hx) (.cells 32 (encLf l[i]))
    have hb1 : ((nodesTo l i).length + 1) * 8 ≤ 140737488355328 := by omega
    have hb2 : (nodesTo l i).length ≤ 9223372036854775806 := by omega
    cases hc : l[i].com
    · rw [hc] at hs
      simp only [Bool.false_eq_true, if_false, List.append_nil] at hs
      simp [hw]
      refine hR (i + 1, id, off, c, s) _ _ ⟨hlt, by rw [hs]; exact ha⟩ (by simp; omega) (GhE.of (Env.sub_ofList (by simp [hw, hs])) (le_right hx (le_right hx (.refl _))))
    · rw [hc] at hs
      simp only [if_true] at hs
      simp [hb1, hb2]
      rw [encLf, hc] at ha2
      refine appr_intro (ys := [celI l[i].txn]) ha2 (by simp) (by simp) fun id' off' c' s' ha' _ => ?_
      simp [hw]
      refine hR (i + 1, id', off', c', s') _ _ ⟨hlt, by simpa [hs] using ha'⟩ (by simp; omega) (GhE.of (Env.sub_ofList (by simp [hw, hs])) (.refl _))
  · simp [hlt]
    refine hX _ _ _ (by simp) ?_
    have : i = l.length := by omega
    subst this
    simp
    refine callK_intro (sortI_c (zs := nodesTo l l.length) (by omega) ha rfl fun s' h3 h4 => ?_)
    simp [Tryz.results43]
    exact fin ⟨id, off, c, by rw [sortI_length], h3⟩
end Go.Proofs
