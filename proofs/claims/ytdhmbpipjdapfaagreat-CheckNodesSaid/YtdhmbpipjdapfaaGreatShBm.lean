import Derived.Test.YtdhmbpipjdapfaaGreatShBk
import Derived.Test.YtdhmbpipjdapfaaGreatShBg
import Derived.Test.YtdhmbpipjdapfaaGreatShBl
set_option linter.unusedSimpArgs false
set_option linter.unusedVariables false

namespace Go.Proofs
open Go Go.Sh
set_option maxRecDepth 20000
/-- A function that is ranged over: it yields some values, in an order of some kind. -/
def SeqC {α : Type} (P : Program) (g : FuncId) (caps : List AV) (args : α → List AV) (Ord : List α → Prop) (N : Nat) (s0 : St) : Prop :=
  ∀ (idl : Nat) (I : List α → List (Nat × AObj) → St → Prop) (s : St) (K : AV → St → Prop),
    (∀ vis pr s it A, I vis pr s → s it = none → I vis ((it, A) :: pr) (s.upd it A)) →
    (∀ vis s it A B, I vis [(it, A)] s → I vis [(it, B)] (s.upd it B)) →
    (∀ vis pr s, I vis pr s → St.le s0 s ∧ ∀ q ∈ pr, s q.1 = some q.2) →
    (∀ vis x pr s K', vis.length < N → I vis pr s → (∀ s', I (vis ++ [x]) pr s' → K' (.bool true) s') → dround P idl (args x) (s idl) s K') →
    (∀ vis pr s, Ord vis → I vis pr s → K (.tup []) s) → I [] [] s → dcall P g (.yld idl :: caps) s K
abbrev celI (n : Int) : List AV := [.int .i64 n]
abbrev celS (s : ByteArray) : List AV := [.str s]
theorem values1_c (xs : List Int) (hl : xs.length ≤ 140737488355328) (o : Sh.Own) {a : Nat} {s0 : St} (ha : s0 a = some (.cells 33 [avI xs o])) : SeqC Tryz.prog 88 [.box a 0] celI (fun vis => vis = xs) xs.length s0 := by
  intro idl I s K hc1 hc2 hc3 hround hend hI
  refine dcall_of_dwp Tryz.func88 rfl (by kernel_rfl) (by simp [Tryz.ntmps88]) ?_
  rw [Tryz.ntmps88]
  refine dwp_of_vk (by kernel_rfl) ?_
  have hca := cellsAt_of ((hc3 _ _ _ hI).1 a _ ha)
  simp [hca]
  refine lk_loop (α := Nat × St) (fun x => Env.ofList [(0, .yld idl), (5, avI xs o), (6, .int .i64 xs.length), (7, .int .i64 x.1)]) (fun x => x.2) (fun x => x.1 ≤ xs.length ∧ I (xs.take x.1) [] x.2) (fun x => xs.length - x.1) (0, s) (by kernel_rfl) ⟨Nat.zero_le _, by simpa using hI⟩ (Env.sub_ofList (by simp)) (.refl _) ?_
  rintro ⟨i, s'⟩ ⟨hi, hIi⟩ R hR hX
  simp only at hi hIi
  simp
  by_cases hlt : i < xs.length
  · have hw : IntKind.i64.wrap (↑i + 1) = ↑i + 1 := wrap_i64 (by omega) (by omega)
    simp [hlt]
    refine yieldK_intro ?_
    refine hround (xs.take i) xs[i] [] s' _ (by simp; omega) hIi fun s2 hs2 => ?_
    simp [hw]
    exact hR (i + 1, s2) _ _ ⟨hlt, by rw [take_succ' xs i hlt]; exact hs2⟩ (by simp; omega) (Env.sub_ofList (by simp [hw])) (.refl _)
  · simp [hlt]
    refine hX _ _ _ (by simp) ?_
    have : i = xs.length := by omega
    subst this
    simp [Tryz.results88]
    exact fin (hend _ _ _ (List.take_length) hIi)
@[simp] theorem ti130 : tiOf Tryz.prog 130 = some ⟨.map 9 4, 1, 8, [.nilmap]⟩ := by kernel_rfl
theorem keysS1_c (l : List (ByteArray × AV)) {a m : Nat} {s0 : St} (ha : s0 a = some (.cells 130 [.map m])) (hm : isMap s0 m (fun s => .str s) l) :
    SeqC Tryz.prog 127 [.box a 0] celS (fun vis => vis.Perm (l.map (·.1))) l.length s0 := by
  intro idl I s K hc1 hc2 hc3 hround hend hI
  refine dcall_of_dwp Tryz.func127 rfl (by kernel_rfl) (by simp [Tryz.ntmps127]) ?_
  rw [Tryz.ntmps127]
  refine dwp_of_vk (by kernel_rfl) ?_
  have hca := cellsAt_of ((hc3 _ _ _ hI).1 a _ ha)
  simp [hca]
  obtain ⟨mo, hmo⟩ := hm.some
  have hms : ∀ {vis pr s}, I vis pr s → isMap s m (fun s => .str s) l := fun h => hm.frame (by rw [(hc3 _ _ _ h).1 m _ hmo, hmo])
  refine mrange_intro (hms hI) fun it s1 hit hiter hfr => ?_
  obtain ⟨A0, hA0⟩ : ∃ A, s1 it = some A := by obtain ⟨_, _, _, _, _, _, _, _, h, _⟩ := hiter; exact ⟨_, h⟩
  have e1 : s1 = s.upd it A0 := by
    funext j
    by_cases hj : j = it
    · subst hj; rw [upd_eq, hA0]
    · rw [upd_ne _ hj, hfr j hj]
  have hI1 : I [] [(it, A0)] s1 := by rw [e1]; exact hc1 _ _ _ _ _ hI hit
  simp
  refine lk_loop (α := List (ByteArray × AV) × AObj × St) (fun x => Env.ofList [(0, .yld idl), (5, .box it 0)]) (fun x => x.2.2) (fun x => I (x.1.map (·.1)) [(it, x.2.1)] x.2.2 ∧ isIter x.2.2 it m (fun s => .str s) l x.1 ∧ x.1.length ≤ l.length) (fun x => l.length - x.1.length) ([], A0, s1) (by kernel_rfl) ⟨hI1, hiter, Nat.zero_le _⟩ (Env.sub_ofList (by simp)) (.refl _) ?_
  rintro ⟨vis, A, s2⟩ ⟨hI2, hit2, hle2⟩ R hR hX
  simp only at hI2 hit2 hle2
  simp
  refine mnext_intro hit2 (fun hp => ?_) fun e s3 he hnew hit3 hfr3 => ?_
  · simp
    refine hX _ _ _ (by simp) ?_
    simp [Tryz.results127]
    exact fin (hend _ _ _ (hp.map (·.1)) hI2)
  · simp
    refine mentry_intro hit3 ?_
    simp
    obtain ⟨B, hB⟩ : ∃ B, s3 it = some B := by obtain ⟨_, _, _, _, _, _, _, _, h, _⟩ := hit3; exact ⟨_, h⟩
    have e3 : s3 = s2.upd it B := by
      funext j
      by_cases hj : j = it
      · subst hj; rw [upd_eq, hB]
      · rw [upd_ne _ hj, hfr3 j hj]
    have hI3 : I (vis.map (·.1)) [(it, B)] s3 := by rw [e3]; exact hc2 _ _ _ _ _ hI2
    have hlt : vis.length < l.length := by
      have hsub : (vis ++ [e]).length ≤ l.length := by
        obtain ⟨bs, c, bv, h1, h2, _, _, _, _, h7, h8, h9⟩ := hit3
        have hnd : ((vis ++ [e]).zip bv).Nodup := by
          have : (((vis ++ [e]).zip bv).map (·.2)).Nodup := by rw [List.map_snd_zip (by omega)]; exact h9
          exact List.Pairwise.of_map _ (fun a b hab e => hab (by rw [e])) this
        have := List.Nodup.length_le_of_subset hnd (fun p hp => h8 p hp)
        simp [h7, h1] at this ⊢
        omega
      simp at hsub; omega
    refine yieldK_intro ?_
    refine hround (vis.map (·.1)) e.1 [(it, B)] s3 _ (by simpa using hlt) hI3 fun s4 hs4 => ?_
    simp
    refine hR (vis ++ [e], B, s4) _ _ ⟨by simpa using hs4, hit3.frame ?_ ?_, by simp; omega⟩ (by simp; omega) (Env.sub_ofList (by simp)) (.refl _)
    · show s4 m = s3 m
      rw [(hc3 _ _ _ hs4).1 m _ hmo, (hc3 _ _ _ hI3).1 m _ hmo]
    · show s4 it = s3 it
      rw [hB]; exact (hc3 _ _ _ hs4).2 (it, B) (by simp)
end Go.Proofs

namespace Go.Proofs
open Go Go.Sh
set_option maxRecDepth 20000
theorem row_ne {s : St} {id e sz off c p t : Nat} {xs cs : List _} (h : rowIs s id e sz xs off c) (hp : s p = some (.cells t cs)) (hne : e ≠ t) : id ≠ p := by
  rintro rfl
  obtain ⟨cs', h1, _⟩ := h
  rw [h1] at hp
  injection hp with hp
  injection hp with hp _
  exact hne hp
theorem row_ne' {s : St} {id e sz off c p : Nat} {xs : List _} {A : AObj} (h : rowIs s id e sz xs off c) (hp : s p = some A) (hne : ∀ t cs, A ≠ .cells t cs) : id ≠ p := by
  rintro rfl
  obtain ⟨cs', h1, _⟩ := h
  rw [h1] at hp
  injection hp with hp
  exact hne _ _ hp.symm
theorem acc_ne {st0 s : St} {id e sz off c p t : Nat} {xs cs : List _} (h : Acc st0 s id off c e sz xs) (hp : s p = some (.cells t cs)) (hne : e ≠ t) : c = 0 ∨ p ≠ id := by
  rcases h.ok with ⟨h, _⟩ | ⟨_, _, h⟩
  · exact .inl h
  · exact .inr (Ne.symm (row_ne h hp hne))
theorem acc_ne' {st0 s : St} {id e sz off c p : Nat} {xs : List _} {A : AObj} (h : Acc st0 s id off c e sz xs) (hp : s p = some A) (hne : ∀ t cs, A ≠ .cells t cs) : c = 0 ∨ p ≠ id := by
  rcases h.ok with ⟨h, _⟩ | ⟨_, _, h⟩
  · exact .inl h
  · exact .inr (Ne.symm (row_ne' h hp hne))
theorem appendSeq_c {g : FuncId} {caps : List AV} {Ord : List Int → Prop} {N : Nat} {st : St} (hs : SeqC Tryz.prog g caps celI Ord N st) (hok : okFn Tryz.prog g) (hN : N ≤ 1099511627776) {K : AV → St → Prop}
    (hK : ∀ vis id off c s, Ord vis → Acc st s id off c 3 1 (vis.map celI) → K (.rowp id off 1 vis.length c) s) : dcall Tryz.prog 120 [.list 0 [] .clip, .fn g caps] st K := by
  refine dcall_of_dwp Tryz.func120 rfl (by kernel_rfl) (by simp [Tryz.ntmps120]) ?_
  rw [Tryz.ntmps120]
  refine dwp_of_vk (by kernel_rfl) ?_
  simp
  refine newK_intro fun p hp => ?_
  simp
  refine lk_gh (ghE_cell (p := p) (t := 33) (cs := [.list 0 [] .clip]) (cs' := [.rowp 0 0 1 0 0]) (by simp) rfl (sub_cons (sub_rowp 0 0 1 0) sub_nil)) ?_
  refine lk_rangeFunc (gf := g) (caps := caps) (by simp) fun l hl => ?_
  simp only [upd_none_iff] at hl
  obtain ⟨hlp, -, hl0⟩ := hl
  have hpl := Ne.symm hlp
  generalize hO : (AObj.loop _ _ _ _ _ none : AObj) = O
  have hOc : ∀ t cs, O ≠ .cells t cs := by rw [← hO]; intro t cs h; cases h
  refine hs l (fun vis pr s => ∃ id off c, s p = some (.cells 33 [.rowp id off 1 vis.length c]) ∧ s l = some O ∧ Acc st s id off c 3 1 (vis.map celI) ∧ ∀ q ∈ pr, s q.1 = some q.2 ∧ q.1 ≠ p ∧ q.1 ≠ l ∧ st q.1 = none ∧ (c = 0 ∨ q.1 ≠ id)) _ _ ?_ ?_ ?_ ?_ ?_ ?_
  · rintro vis pr s it A ⟨id, off, c, h1, h2, h3, h4⟩ hit
    have e1 : p ≠ it := fun e => by rw [e, hit] at h1; cases h1
    have e2 : l ≠ it := fun e => by rw [e, hit] at h2; cases h2
    refine ⟨id, off, c, by rw [upd_ne _ e1]; exact h1, by rw [upd_ne _ e2]; exact h2, h3.new hit A, fun q hq => ?_⟩
    rcases List.mem_cons.1 hq with rfl | hq
    · exact ⟨upd_eq _ _ _, Ne.symm e1, Ne.symm e2, h3.none hit, h3.fresh hit⟩
    · obtain ⟨k1, k2, k3, k4, k5⟩ := h4 q hq
      have : q.1 ≠ it := fun e => by rw [e, hit] at k1; cases k1
      exact ⟨by rw [upd_ne _ this]; exact k1, k2, k3, k4, k5⟩
  · rintro vis s it A B ⟨id, off, c, h1, h2, h3, h4⟩
    obtain ⟨k1, k2, k3, k4, k5⟩ := h4 (it, A) (by simp)
    refine ⟨id, off, c, by rw [upd_ne _ (Ne.symm k2)]; exact h1, by rw [upd_ne _ (Ne.symm k3)]; exact h2, h3.turn k4 k5 B, fun q hq => ?_⟩
    simp only [List.mem_singleton] at hq
    subst hq
    exact ⟨upd_eq _ _ _, k2, k3, k4, k5⟩
  · rintro vis pr s ⟨id, off, c, h1, h2, h3, h4⟩
    exact ⟨h3.le, fun q hq => (h4 q hq).1⟩
  · rintro vis x pr s K' hlen ⟨id, off, c, h1, h2, h3, h4⟩ hk
    refine dround_intro' hO h2 rfl (by kernel_rfl) (by kernel_rfl) (by kernel_rfl) (by kernel_rfl) fun R hR _ => ?_
    have hcp := cellsAt_of h1
    have hb1 : (vis.length + 1) * 8 ≤ 140737488355328 := by omega
    have hb2 : vis.length ≤ 9223372036854775806 := by omega
    simp [hpl, hcp, hb1, hb2]
    have ha1 : Acc st (s.upd l .busy) id off c 3 1 (vis.map celI) := h3.turn hl0 (acc_ne' h3 h2 hOc) _
    refine appr_intro ha1 (by simp) (by simp) fun id' off' c' s' ha' hfr => ?_
    have hp' : s' p = some (.cells 33 [.rowp id off 1 vis.length c]) := (hfr p _ (by rw [upd_ne _ hpl]; exact h1) (acc_ne h3 h1 (by decide))).1
    have hl' : s' l = some .busy := (hfr l _ (upd_eq _ _ _) (acc_ne' h3 h2 hOc)).1
    simp [cellsAt_of hp']
    refine hR _ (by rw [upd_ne _ hlp]; exact hl') (hk _ ⟨id', off', c', by rw [upd_ne _ hpl, upd_eq]; simp, upd_eq _ _ _, ?_, fun q hq => ?_⟩)
    · have := (ha'.turn hp (acc_ne ha' hp' (by decide)) (.cells 33 [.rowp id' off' 1 (vis.length + 1) c'])).turn hl0 (acc_ne' ha' hl' (by simp)) O
      simpa using this
    · obtain ⟨k1, k2, k3, k4, k5⟩ := h4 q hq
      have hq' := hfr q.1 q.2 (by rw [upd_ne _ k3]; exact k1) k5
      exact ⟨by rw [upd_ne _ k3, upd_ne _ k2]; exact hq'.1, k2, k3, k4, hq'.2⟩
  · rintro vis pr s hord ⟨id, off, c, h1, h2, h3, h4⟩
    refine ⟨none, by rw [h2, ← hO], ?_⟩
    simp [hpl, cellsAt_of h1, Tryz.results120]
    exact fin (hK vis id off c _ hord (h3.del hl0 (acc_ne' h3 h2 hOc)))
  · exact ⟨0, 0, 0, by simp [hpl], by simp, ⟨le_right hl0 (le_right hp (le_right hp (.refl _))), .inl ⟨rfl, rfl⟩⟩, by simp⟩
end Go.Proofs

namespace Go.Proofs
open Go Go.Sh
set_option maxRecDepth 20000
@[simp] theorem ti78 : tiOf Tryz.prog 78 = some ⟨.slice 9, 1, 24, [.list 0 [] .clip]⟩ := by kernel_rfl
@[simp] theorem ti106 : tiOf Tryz.prog 106 = some ⟨.map 3 4, 1, 8, [.nilmap]⟩ := by kernel_rfl
theorem appendSeqS_c {g : FuncId} {caps : List AV} {Ord : List ByteArray → Prop} {N : Nat} {st : St} (hs : SeqC Tryz.prog g caps celS Ord N st) (hok : okFn Tryz.prog g) (hN : N ≤ 1099511627776) {K : AV → St → Prop}
    (hK : ∀ vis id off c s, Ord vis → Acc st s id off c 9 1 (vis.map celS) → K (.rowp id off 1 vis.length c) s) : dcall Tryz.prog 144 [.list 0 [] .clip, .fn g caps] st K := by
  refine dcall_of_dwp Tryz.func144 rfl (by kernel_rfl) (by simp [Tryz.ntmps144]) ?_
  rw [Tryz.ntmps144]
  refine dwp_of_vk (by kernel_rfl) ?_
  simp
  refine newK_intro fun p hp => ?_
  simp
  refine lk_gh (ghE_cell (p := p) (t := 78) (cs := [.list 0 [] .clip]) (cs' := [.rowp 0 0 1 0 0]) (by simp) rfl (sub_cons (sub_rowp 0 0 1 0) sub_nil)) ?_
  refine lk_rangeFunc (gf := g) (caps := caps) (by simp) fun l hl => ?_
  simp only [upd_none_iff] at hl
  obtain ⟨hlp, -, hl0⟩ := hl
  have hpl := Ne.symm hlp
  generalize hO : (AObj.loop _ _ _ _ _ none : AObj) = O
  have hOc : ∀ t cs, O ≠ .cells t cs := by rw [← hO]; intro t cs h; cases h
  refine hs l (fun vis pr s => ∃ id off c, s p = some (.cells 78 [.rowp id off 1 vis.length c]) ∧ s l = some O ∧ Acc st s id off c 9 1 (vis.map celS) ∧ ∀ q ∈ pr, s q.1 = some q.2 ∧ q.1 ≠ p ∧ q.1 ≠ l ∧ st q.1 = none ∧ (c = 0 ∨ q.1 ≠ id)) _ _ ?_ ?_ ?_ ?_ ?_ ?_
  · rintro vis pr s it A ⟨id, off, c, h1, h2, h3, h4⟩ hit
    have e1 : p ≠ it := fun e => by rw [e, hit] at h1; cases h1
    have e2 : l ≠ it := fun e => by rw [e, hit] at h2; cases h2
    refine ⟨id, off, c, by rw [upd_ne _ e1]; exact h1, by rw [upd_ne _ e2]; exact h2, h3.new hit A, fun q hq => ?_⟩
    rcases List.mem_cons.1 hq with rfl | hq
    · exact ⟨upd_eq _ _ _, Ne.symm e1, Ne.symm e2, h3.none hit, h3.fresh hit⟩
    · obtain ⟨k1, k2, k3, k4, k5⟩ := h4 q hq
      have : q.1 ≠ it := fun e => by rw [e, hit] at k1; cases k1
      exact ⟨by rw [upd_ne _ this]; exact k1, k2, k3, k4, k5⟩
  · rintro vis s it A B ⟨id, off, c, h1, h2, h3, h4⟩
    obtain ⟨k1, k2, k3, k4, k5⟩ := h4 (it, A) (by simp)
    refine ⟨id, off, c, by rw [upd_ne _ (Ne.symm k2)]; exact h1, by rw [upd_ne _ (Ne.symm k3)]; exact h2, h3.turn k4 k5 B, fun q hq => ?_⟩
    simp only [List.mem_singleton] at hq
    subst hq
    exact ⟨upd_eq _ _ _, k2, k3, k4, k5⟩
  · rintro vis pr s ⟨id, off, c, h1, h2, h3, h4⟩
    exact ⟨h3.le, fun q hq => (h4 q hq).1⟩
  · rintro vis x pr s K' hlen ⟨id, off, c, h1, h2, h3, h4⟩ hk
    refine dround_intro' hO h2 rfl (by kernel_rfl) (by kernel_rfl) (by kernel_rfl) (by kernel_rfl) fun R hR _ => ?_
    have hcp := cellsAt_of h1
    have hb1 : (vis.length + 1) * 16 ≤ 140737488355328 := by omega
    have hb2 : vis.length ≤ 9223372036854775806 := by omega
    simp [hpl, hcp, hb1, hb2]
    have ha1 : Acc st (s.upd l .busy) id off c 9 1 (vis.map celS) := h3.turn hl0 (acc_ne' h3 h2 hOc) _
    refine appr_intro ha1 (by simp) (by simp) fun id' off' c' s' ha' hfr => ?_
    have hp' : s' p = some (.cells 78 [.rowp id off 1 vis.length c]) := (hfr p _ (by rw [upd_ne _ hpl]; exact h1) (acc_ne h3 h1 (by decide))).1
    have hl' : s' l = some .busy := (hfr l _ (upd_eq _ _ _) (acc_ne' h3 h2 hOc)).1
    simp [cellsAt_of hp']
    refine hR _ (by rw [upd_ne _ hlp]; exact hl') (hk _ ⟨id', off', c', by rw [upd_ne _ hpl, upd_eq]; simp, upd_eq _ _ _, ?_, fun q hq => ?_⟩)
    · have := (ha'.turn hp (acc_ne ha' hp' (by decide)) (.cells 78 [.rowp id' off' 1 (vis.length + 1) c'])).turn hl0 (acc_ne' ha' hl' (by simp)) O
      simpa using this
    · obtain ⟨k1, k2, k3, k4, k5⟩ := h4 q hq
      have hq' := hfr q.1 q.2 (by rw [upd_ne _ k3]; exact k1) k5
      exact ⟨by rw [upd_ne _ k3, upd_ne _ k2]; exact hq'.1, k2, k3, k4, hq'.2⟩
  · rintro vis pr s hord ⟨id, off, c, h1, h2, h3, h4⟩
    refine ⟨none, by rw [h2, ← hO], ?_⟩
    simp [hpl, cellsAt_of h1, Tryz.results144]
    exact fin (hK vis id off c _ hord (h3.del hl0 (acc_ne' h3 h2 hOc)))
  · exact ⟨0, 0, 0, by simp [hpl], by simp, ⟨le_right hl0 (le_right hp (le_right hp (.refl _))), .inl ⟨rfl, rfl⟩⟩, by simp⟩
theorem keysI1_c (l : List (Int × AV)) {a m : Nat} {s0 : St} (ha : s0 a = some (.cells 106 [.map m])) (hm : isMap s0 m (fun n => .int .i64 n) l) :
    SeqC Tryz.prog 111 [.box a 0] celI (fun vis => vis.Perm (l.map (·.1))) l.length s0 := by
  intro idl I s K hc1 hc2 hc3 hround hend hI
  refine dcall_of_dwp Tryz.func111 rfl (by kernel_rfl) (by simp [Tryz.ntmps111]) ?_
  rw [Tryz.ntmps111]
  refine dwp_of_vk (by kernel_rfl) ?_
  have hca := cellsAt_of ((hc3 _ _ _ hI).1 a _ ha)
  simp [hca]
  obtain ⟨mo, hmo⟩ := hm.some
  have hms : ∀ {vis pr s}, I vis pr s → isMap s m (fun n => .int .i64 n) l := fun h => hm.frame (by rw [(hc3 _ _ _ h).1 m _ hmo, hmo])
  refine mrange_intro (hms hI) fun it s1 hit hiter hfr => ?_
  obtain ⟨A0, hA0⟩ : ∃ A, s1 it = some A := by obtain ⟨_, _, _, _, _, _, _, _, h, _⟩ := hiter; exact ⟨_, h⟩
  have e1 : s1 = s.upd it A0 := by
    funext j
    by_cases hj : j = it
    · subst hj; rw [upd_eq, hA0]
    · rw [upd_ne _ hj, hfr j hj]
  have hI1 : I [] [(it, A0)] s1 := by rw [e1]; exact hc1 _ _ _ _ _ hI hit
  simp
  refine lk_loop (α := List (Int × AV) × AObj × St) (fun x => Env.ofList [(0, .yld idl), (5, .box it 0)]) (fun x => x.2.2) (fun x => I (x.1.map (·.1)) [(it, x.2.1)] x.2.2 ∧ isIter x.2.2 it m (fun n => .int .i64 n) l x.1 ∧ x.1.length ≤ l.length) (fun x => l.length - x.1.length) ([], A0, s1) (by kernel_rfl) ⟨hI1, hiter, Nat.zero_le _⟩ (Env.sub_ofList (by simp)) (.refl _) ?_
  rintro ⟨vis, A, s2⟩ ⟨hI2, hit2, hle2⟩ R hR hX
  simp only at hI2 hit2 hle2
  simp
  refine mnext_intro hit2 (fun hp => ?_) fun e s3 he hnew hit3 hfr3 => ?_
  · simp
    refine hX _ _ _ (by simp) ?_
    simp [Tryz.results111]
    exact fin (hend _ _ _ (hp.map (·.1)) hI2)
  · simp
    refine mentry_intro hit3 ?_
    simp
    obtain ⟨B, hB⟩ : ∃ B, s3 it = some B := by obtain ⟨_, _, _, _, _, _, _, _, h, _⟩ := hit3; exact ⟨_, h⟩
    have e3 : s3 = s2.upd it B := by
      funext j
      by_cases hj : j = it
      · subst hj; rw [upd_eq, hB]
      · rw [upd_ne _ hj, hfr3 j hj]
    have hI3 : I (vis.map (·.1)) [(it, B)] s3 := by rw [e3]; exact hc2 _ _ _ _ _ hI2
    have hlt : vis.length < l.length := by
      have hsub : (vis ++ [e]).length ≤ l.length := by
        obtain ⟨bs, c, bv, h1, h2, _, _, _, _, h7, h8, h9⟩ := hit3
        have hnd : ((vis ++ [e]).zip bv).Nodup := by
          have : (((vis ++ [e]).zip bv).map (·.2)).Nodup := by rw [List.map_snd_zip (by omega)]; exact h9
          exact List.Pairwise.of_map _ (fun a b hab e => hab (by rw [e])) this
        have := List.Nodup.length_le_of_subset hnd (fun p hp => h8 p hp)
        simp [h7, h1] at this ⊢
        omega
      simp at hsub; omega
    refine yieldK_intro ?_
    refine hround (vis.map (·.1)) e.1 [(it, B)] s3 _ (by simpa using hlt) hI3 fun s4 hs4 => ?_
    simp
    refine hR (vis ++ [e], B, s4) _ _ ⟨by simpa using hs4, hit3.frame ?_ ?_, by simp; omega⟩ (by simp; omega) (Env.sub_ofList (by simp)) (.refl _)
    · show s4 m = s3 m
      rw [(hc3 _ _ _ hs4).1 m _ hmo, (hc3 _ _ _ hI3).1 m _ hmo]
    · show s4 it = s3 it
      rw [hB]; exact (hc3 _ _ _ hs4).2 (it, B) (by simp)

theorem okFn_of {P : Program} {f : FuncId} {fn : Func} (h : P.funcs[f]? = some fn) (h2 : (fn.name == "runtime.NumGoroutine") = false) (h3 : fn.body.isNone = false) : okFn P f := ⟨fn, h, h2, h3⟩
def sortI (l : List Int) : List Int := l.mergeSort fun x y => decide (x ≤ y)
theorem sortI_length (l : List Int) : (sortI l).length = l.length := List.length_mergeSort _
theorem sort0 {f : FuncId} (hok : okFn Tryz.prog f) (h : ∀ p w, Calls Tryz.prog f #[.slice p 0 0] w fun e w' => e = .returned (.tuple #[]) ∧ w' = w) : PureC Tryz.prog f [.list 1 [] .clip] (.tup []) := by
  refine fun st K hK => ⟨hok, fun B w0 M w vals hI hv => ?_⟩
  have hvs : vals.size = 1 := hv.1
  obtain ⟨v, rfl⟩ : ∃ v, vals = #[v] := ⟨vals[0], by apply Array.ext; simp [hvs]; intro i h1 h2; simp at h2; subst h2; rfl⟩
  have hv0 := hv.2 0
  simp only [List.getD_cons_zero, Array.getD_eq_getD_getElem?, List.getElem?_toArray, List.getElem?_cons_zero, Option.getD_some] at hv0
  obtain ⟨p, rfl⟩ : ∃ p, v = .slice p 0 0 := by
    generalize hx : ([] : List (List AV)) = xs at hv0
    cases hv0 with
    | nils => exact ⟨none, rfl⟩
    | list _ _ _ a cap g hF hg hl hc hm hoo => subst hx; simp only [OwnOk, List.length_nil] at hoo; subst hoo; exact ⟨some a, rfl⟩
  refine (h p w).mono ?_
  rintro e w' ⟨rfl, rfl⟩
  exact ⟨_, M, .tup [], st, rfl, .refl M, hI, .tup [] #[] rfl (fun _ => .undef _), hK⟩
theorem sortI_c {zs : List Int} (hz : zs.length < 4611686018427387904) {st0 s : St} {id off c m : Nat} (ha : Acc st0 s id off c 3 1 (zs.map celI)) (hm : m = zs.length) {K : AV → St → Prop}
    (hK : ∀ s', Acc st0 s' id off c 3 1 ((sortI zs).map celI) → (∀ j, (c = 0 ∨ j ≠ id) → s' j = s j) → K (.tup []) s') : dcall Tryz.prog 80 [.rowp id off 1 m c] s K :=
  sort_row (enc := fun n => .int .i64 n) (u := fun n => .int .i64 n) (fun M x => .int _ _) (fun M x v h => by cases h; rfl) (okFn_of Tryz.func80 (by kernel_rfl) (by kernel_rfl)) sortI sortI_length
    (fun blk off cap zs w h1 h2 h3 => Tryz.slices_Sort_int blk off cap zs w h1 h2 h3) (sort0 (okFn_of Tryz.func80 (by kernel_rfl) (by kernel_rfl)) fun p w => Tryz.slices_Sort_int_none p 0 w) hz ha hm hK
def toL (b : ByteArray) : List UInt8 := b.data.toList
def ofL (l : List UInt8) : ByteArray := ⟨l.toArray⟩
theorem ofL_toL (b : ByteArray) : ofL (toL b) = b := by simp [ofL, toL]
theorem toL_ofL (l : List UInt8) : toL (ofL l) = l := by simp [ofL, toL]
def sortS (l : List ByteArray) : List ByteArray := ((l.map toL).mergeSort fun x y => decide (x ≤ y)).map ofL
theorem sortS_length (l : List ByteArray) : (sortS l).length = l.length := by simp [sortS, List.length_mergeSort]
theorem map_ofL (l : List ByteArray) : (l.map toL).map ofL = l := by simp [Function.comp_def, ofL_toL]
theorem sortS_c {zs : List ByteArray} (hz : zs.length < 4611686018427387904) {st0 s : St} {id off c m : Nat} (ha : Acc st0 s id off c 9 1 (zs.map celS)) (hm : m = zs.length) {K : AV → St → Prop}
    (hK : ∀ s', Acc st0 s' id off c 9 1 ((sortS zs).map celS) → (∀ j, (c = 0 ∨ j ≠ id) → s' j = s j) → K (.tup []) s') : dcall Tryz.prog 126 [.rowp id off 1 m c] s K := by
  have e1 : zs.map celS = (zs.map toL).map fun l => [AV.str (ofL l)] := by
    rw [List.map_map]; exact List.map_congr_left fun x _ => by show [AV.str x] = [AV.str (ofL (toL x))]; rw [ofL_toL]
  rw [e1] at ha
  have hcall : ∀ (blk off cap : Nat) (zs : List (List UInt8)) (w : World), Go.Sort.Holds encStr w blk off zs.toArray → blk < w.heap.size → zs.length < 4611686018427387904 →
      Calls Tryz.prog 126 #[.slice (some ⟨blk, off, none⟩) zs.length cap] w fun e w' => e = .returned (.tuple #[]) ∧ ∃ n os, w' = Go.Sort.grow (Go.Sort.putRow encStr (Go.Sort.ahead w n) blk off (zs.mergeSort fun x y => decide (x ≤ y)).toArray) os :=
    fun blk off cap zs w h1 h2 h3 => Tryz.slices_Sort_string blk off cap zs w h1 h2 h3
  have hnil := sort0 (okFn_of Tryz.func126 (by kernel_rfl) (by kernel_rfl)) fun p w => Tryz.slices_Sort_string_none p 0 w
  refine sort_row (enc := encStr) (u := fun l => .str (ofL l)) (fun M x => .str _) (fun M x v h => by cases h; rfl) (okFn_of Tryz.func126 (by kernel_rfl) (by kernel_rfl)) (fun l => l.mergeSort fun x y => decide (x ≤ y)) (fun l => List.length_mergeSort _)
    hcall hnil (zs := zs.map toL) (by simpa using hz) ha (by simpa using hm) fun s' h1 h2 => hK s' ?_ h2
  have e2 : (sortS zs).map celS = ((zs.map toL).mergeSort fun x y => decide (x ≤ y)).map fun l => [AV.str (ofL l)] := by
    unfold sortS; rw [List.map_map]; rfl
  rw [e2]; exact h1
theorem collectI_c {g : FuncId} {caps : List AV} {Ord : List Int → Prop} {N : Nat} {st : St} (hs : SeqC Tryz.prog g caps celI Ord N st) (hok : okFn Tryz.prog g) (hN : N ≤ 1099511627776) {K : AV → St → Prop}
    (hK : ∀ vis id off c s, Ord vis → Acc st s id off c 3 1 (vis.map celI) → K (.rowp id off 1 vis.length c) s) : dcall Tryz.prog 87 [.fn g caps] st K := by
  refine dcall_of_dwp Tryz.func87 rfl (by kernel_rfl) (by simp [Tryz.ntmps87]) ?_
  rw [Tryz.ntmps87]
  refine dwp_of_vk (by kernel_rfl) ?_
  simp
  refine callK_intro (appendSeq_c hs hok hN fun vis id off c s h1 h2 => ?_)
  simp [Tryz.results87]
  exact fin (hK _ _ _ _ _ h1 h2)
theorem collectS_c {g : FuncId} {caps : List AV} {Ord : List ByteArray → Prop} {N : Nat} {st : St} (hs : SeqC Tryz.prog g caps celS Ord N st) (hok : okFn Tryz.prog g) (hN : N ≤ 1099511627776) {K : AV → St → Prop}
    (hK : ∀ vis id off c s, Ord vis → Acc st s id off c 9 1 (vis.map celS) → K (.rowp id off 1 vis.length c) s) : dcall Tryz.prog 125 [.fn g caps] st K := by
  refine dcall_of_dwp Tryz.func125 rfl (by kernel_rfl) (by simp [Tryz.ntmps125]) ?_
  rw [Tryz.ntmps125]
  refine dwp_of_vk (by kernel_rfl) ?_
  simp
  refine callK_intro (appendSeqS_c hs hok hN fun vis id off c s h1 h2 => ?_)
  simp [Tryz.results125]
  exact fin (hK _ _ _ _ _ h1 h2)
/-- Sorted: what is told behind it holds of a list that changes no more. -/
theorem sortedI_c {g : FuncId} {caps : List AV} {Ord : List Int → Prop} {N : Nat} {st : St} (hs : SeqC Tryz.prog g caps celI Ord N st) (hok : okFn Tryz.prog g) (hN : N ≤ 1099511627776) (hlen : ∀ vis, Ord vis → vis.length ≤ N) {K : AV → St → Prop}
    (hK : ∀ vis, Ord vis → K (avI (sortI vis) .no) st) : dcall Tryz.prog 53 [.fn g caps] st K := by
  refine dcall_gh (K' := fun v s => ∃ vis id off c, Ord vis ∧ v = .rowp id off 1 vis.length c ∧ Acc st s id off c 3 1 ((sortI vis).map celI)) ?_ ?_
  · rintro v s ⟨vis, id, off, c, h1, rfl, h2⟩
    refine ⟨_, _, ?_, hK vis h1⟩
    have := gh_row h2
    simpa [sortI_length] using this
  refine dcall_of_dwp Tryz.func53 rfl (by kernel_rfl) (by simp [Tryz.ntmps53]) ?_
  rw [Tryz.ntmps53]
  refine dwp_of_vk (by kernel_rfl) ?_
  simp
  refine callK_intro (collectI_c hs hok hN fun vis id off c s h1 h2 => ?_)
  have := hlen vis h1
  simp
  refine callK_intro (sortI_c (zs := vis) (by omega) h2 rfl fun s' h3 h4 => ?_)
  simp [Tryz.results53]
  exact fin ⟨vis, h1, id, off, c, rfl, h3⟩
theorem sortedS_c {g : FuncId} {caps : List AV} {Ord : List ByteArray → Prop} {N : Nat} {st : St} (hs : SeqC Tryz.prog g caps celS Ord N st) (hok : okFn Tryz.prog g) (hN : N ≤ 1099511627776) (hlen : ∀ vis, Ord vis → vis.length ≤ N) {K : AV → St → Prop}
    (hK : ∀ vis, Ord vis → K (.list 1 ((sortS vis).map celS) .no) st) : dcall Tryz.prog 104 [.fn g caps] st K := by
  refine dcall_gh (K' := fun v s => ∃ vis id off c, Ord vis ∧ v = .rowp id off 1 vis.length c ∧ Acc st s id off c 9 1 ((sortS vis).map celS)) ?_ ?_
  · rintro v s ⟨vis, id, off, c, h1, rfl, h2⟩
    refine ⟨_, _, ?_, hK vis h1⟩
    have := gh_row h2
    simpa [sortS_length] using this
  refine dcall_of_dwp Tryz.func104 rfl (by kernel_rfl) (by simp [Tryz.ntmps104]) ?_
  rw [Tryz.ntmps104]
  refine dwp_of_vk (by kernel_rfl) ?_
  simp
  refine callK_intro (collectS_c hs hok hN fun vis id off c s h1 h2 => ?_)
  have := hlen vis h1
  simp
  refine callK_intro (sortS_c (zs := vis) (by omega) h2 rfl fun s' h3 h4 => ?_)
  simp [Tryz.results104]
  exact fin ⟨vis, h1, id, off, c, rfl, h3⟩
theorem valuesI_c (l : List Int) (o : Sh.Own) {st : St} {K : AV → St → Prop} (hK : ∀ a, st a = none → K (.fn 88 [.box a 0]) (st.upd a (.cells 33 [avI l o]))) : dcall Tryz.prog 54 [avI l o] st K := by
  refine dcall_of_dwp Tryz.func54 rfl (by kernel_rfl) (by simp [Tryz.ntmps54]) ?_
  rw [Tryz.ntmps54]
  refine dwp_of_vk (by kernel_rfl) ?_
  simp
  refine newK_intro fun a ha => ?_
  simp [Tryz.results54]
  exact fin (hK a ha)
theorem keysI_c (m : Nat) {st : St} {K : AV → St → Prop} (hK : ∀ a, st a = none → K (.fn 111 [.box a 0]) (st.upd a (.cells 106 [.map m]))) : dcall Tryz.prog 78 [.map m] st K := by
  refine dcall_of_dwp Tryz.func78 rfl (by kernel_rfl) (by simp [Tryz.ntmps78]) ?_
  rw [Tryz.ntmps78]
  refine dwp_of_vk (by kernel_rfl) ?_
  simp
  refine newK_intro fun a ha => ?_
  simp [Tryz.results78]
  exact fin (hK a ha)
theorem keysS_c (m : Nat) {st : St} {K : AV → St → Prop} (hK : ∀ a, st a = none → K (.fn 127 [.box a 0]) (st.upd a (.cells 130 [.map m]))) : dcall Tryz.prog 105 [.map m] st K := by
  refine dcall_of_dwp Tryz.func105 rfl (by kernel_rfl) (by simp [Tryz.ntmps105]) ?_
  rw [Tryz.ntmps105]
  refine dwp_of_vk (by kernel_rfl) ?_
  simp
  refine newK_intro fun a ha => ?_
  simp [Tryz.results105]
  exact fin (hK a ha)
end Go.Proofs

namespace Go.Proofs
open Go Go.Sh
set_option maxRecDepth 20000
@[simp] theorem ti27 : tiOf Tryz.prog 27 = some ⟨.slice 32, 1, 24, [.list 0 [] .clip]⟩ := by kernel_rfl
def livesTo (h : List Ev) : Nat → List Lf
  | 0 => []
  | n + 1 => if anyB (h.take n) (h.getD n default).txn then livesTo h n else livesTo h n ++ [lifeOf h (h.getD n default).txn n]
def livesAll (h : List Ev) : List Lf := livesTo h h.length
theorem livesTo_length (h : List Ev) : ∀ n, (livesTo h n).length ≤ n
  | 0 => by simp [livesTo]
  | n + 1 => by
    have := livesTo_length h n
    unfold livesTo
    split <;> simp <;> omega
theorem lives_row (h : List Ev) (hl : h.length ≤ 1099511627776) (o : Sh.Own) {st : St} {K : AV → St → Prop} (hK : ∀ id off c s, Acc st s id off c 32 4 ((livesAll h).map encLf) → K (.rowp id off 4 (livesAll h).length c) s) : dcall Tryz.prog 79 [avH h o] st K := by
  refine dcall_of_dwp Tryz.func79 rfl (by kernel_rfl) (by simp [Tryz.ntmps79]) ?_
  rw [Tryz.ntmps79]
  refine dwp_of_vk (by kernel_rfl) ?_
  simp
  refine lk_loop (α := Nat × Nat × Nat × Nat × St) (fun x => Env.ofList [(0, avH h o), (3, .rowp x.2.1 x.2.2.1 4 (livesTo h x.1).length x.2.2.2.1), (8, avH h o), (9, .int .i64 h.length), (10, .int .i64 x.1)]) (fun x => x.2.2.2.2)
    (fun x => x.1 ≤ h.length ∧ Acc st x.2.2.2.2 x.2.1 x.2.2.1 x.2.2.2.1 32 4 ((livesTo h x.1).map encLf)) (fun x => h.length - x.1) (0, 0, 0, 0, st) (by kernel_rfl) ⟨Nat.zero_le _, Acc.nil ..⟩ (Env.sub_ofList (by simp [livesTo, sub_rowp])) (.refl _) ?_
  rintro ⟨i, id, off, c, s⟩ ⟨hi, ha⟩ R hR hX
  simp only at hi ha
  simp
  by_cases hlt : i < h.length
  · have hw : IntKind.i64.wrap (↑i + 1) = ↑i + 1 := wrap_i64 (by omega) (by omega)
    have hle : i ≤ h.length := by omega
    simp [hlt]
    refine newK_intro fun x hx => ?_
    have hlen := livesTo_length h i
    simp
    refine lk_draw mixed [[], [], [], [], [], [], [], [], [], [], []] [(21, .tup [.bool (anyB (h.take i) h[i].txn), .bool (doneB (h.take i) h[i].txn)])] (by kernel_rfl) ?_
    have hov := over_c (h.take i) (by simp; omega) (if (i : Int) = h.length ∧ o = .clip then .clip else .no) h[i].txn
    simp [hle]
    refine ⟨by simpa only [avH, List.map_take] using hov, ?_⟩
    have hget : h.getD i default = h[i] := by simp [hlt]
    cases hany : anyB (h.take i) h[i].txn
    · simp
      refine callK_pure (life_c h (by omega) o i hlt) ?_
      have hb1 : ((livesTo h i).length + 1) * 32 ≤ 140737488355328 := by omega
      have hb2 : (livesTo h i).length ≤ 9223372036854775806 := by omega
      simp [hb1, hb2]
      refine appr_intro ((ha.new hx _).new_same hx (ha.fresh hx) (ha.none hx) _) (by simp) (by simp) fun id' off' c' s' ha' hfr => ?_
      simp [hw]
      have hb : livesTo h (i + 1) = livesTo h i ++ [lifeOf h h[i].txn i] := by simp only [livesTo]; rw [hget, hany]; rfl
      refine hR (i + 1, id', off', c', s') _ _ ⟨hlt, by simpa [hb] using ha'⟩ (by simp; omega) (Env.sub_ofList (by simp [hw, hb])) (.refl _)
    · simp [hw]
      have hb : livesTo h (i + 1) = livesTo h i := by simp only [livesTo]; rw [hget, hany]; rfl
      refine hR (i + 1, id, off, c, s) _ _ ⟨hlt, by rw [hb]; exact ha⟩ (by simp; omega) (Env.sub_ofList (by simp [hw, hb])) (le_right hx (le_right hx (.refl _)))
  · simp [hlt]
    refine hX _ _ _ (by simp) ?_
    have : i = h.length := by omega
    subst this
    simp [Tryz.results79]
    exact fin (hK id off c s ha)
end Go.Proofs
