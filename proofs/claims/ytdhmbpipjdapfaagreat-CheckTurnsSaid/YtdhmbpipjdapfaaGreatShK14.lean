import Derived.Test.YtdhmbpipjdapfaaGreatShK13
namespace Go.Proofs
open Go Go.Sh
set_option maxRecDepth 20000
@[simp] theorem ti81 : tiOf Tryz.prog 81 = some ⟨.slice 35, 1, 24, [.list 0 [] .clip]⟩ := by kernel_rfl
@[simp] theorem ef35 : eqFlat Tryz.prog 35 = some [.int, .int, .int] := by kernel_rfl
abbrev avB (l : List Bd) (o : Sh.Own) : AV := .list 3 (l.map encBd) o
theorem owns_le {st0 st : St} {e sz n : Nat} {o : Sh.Own} (h : Owns st0 e sz n o st) : St.le st0 st := by
  cases o with
  | no => exact h.elim
  | clip => simp only [Owns] at h; subst h; exact .refl _
  | op id => obtain ⟨h1, rfl⟩ := h; exact le_upd h1 _
theorem owns_upd {st0 s : St} {e sz n : Nat} {o : Sh.Own} (h : Owns st0 e sz n o s) (x : Nat) (A : AObj) (hx : ∀ id, o = .op id → x ≠ id) : Owns (st0.upd x A) e sz n o (s.upd x A) := by
  cases o with
  | no => exact h.elim
  | clip => simp only [Owns] at h ⊢; rw [h]
  | op id =>
    obtain ⟨h1, rfl⟩ := h
    have hne := hx id rfl
    refine ⟨by simp [Ne.symm hne, h1], ?_⟩
    funext j
    simp only [St.upd]
    by_cases h1 : j = x
    · subst h1; simp [hne]
    · by_cases h2 : j = id
      · subst h2; simp; exact fun e => absurd e.symm hne
      · simp [h1, h2]
theorem owns_fresh {st0 s : St} {e sz n : Nat} {o : Sh.Own} (h : Owns st0 e sz n o s) {x : Nat} (hx : s x = none) : (∀ id, o = .op id → x ≠ id) ∧ st0 x = none := by
  cases o with
  | no => exact h.elim
  | clip => simp only [Owns] at h; subst h; exact ⟨fun _ e => (by cases e), hx⟩
  | op id =>
    obtain ⟨h1, rfl⟩ := h
    rw [upd_none_iff] at hx
    exact ⟨fun i e => (by cases e; exact hx.1), hx.2⟩
/-- All that are wrong, up to a place. -/
def badTo (h : List Ev) : Nat → List Bd
  | 0 => []
  | n + 1 => if atE h n ≠ ⟨0, 0, 0⟩ then badTo h n ++ [atE h n] else badTo h n
def badAll (h : List Ev) : List Bd := badTo h h.length
theorem badTo_length (h : List Ev) : ∀ n, (badTo h n).length ≤ n
  | 0 => by simp [badTo]
  | n + 1 => by
    have := badTo_length h n
    unfold badTo
    split <;> simp <;> omega
theorem all_c (h : List Ev) (hl : h.length ≤ 1099511627776) (o : Sh.Own) : PureC Tryz.prog 72 [avH h o] (avB (badAll h) .no) := by
  refine pure_of_dwp Tryz.func72 rfl (by kernel_rfl) (by simp [Tryz.ntmps72]) fun st K hK => ?_
  rw [Tryz.ntmps72]
  refine dwp_of_vk (by kernel_rfl) ?_
  simp
  refine lk_loop (α := Nat × Nat × Sh.Own × St) (fun x => Env.ofList [(0, avH h o), (3, .list x.2.1 ((badTo h x.1).map encBd) x.2.2.1), (7, .int .i64 h.length), (8, .int .i64 x.1)]) (fun x => x.2.2.2)
    (fun x => x.1 ≤ h.length ∧ (badTo h x.1 = [] ∨ x.2.1 = 3) ∧ ∃ st0, St.le st st0 ∧ Owns st0 35 3 (badTo h x.1).length x.2.2.1 x.2.2.2) (fun x => h.length - x.1) (0, 0, .clip, st) (by kernel_rfl) ⟨Nat.zero_le _, .inl rfl, st, .refl _, rfl⟩ (Env.sub_ofList (by simp [badTo])) (.refl _) ?_
  rintro ⟨i, sz, ow, s⟩ ⟨hi, hsz, st0, hle0, hown⟩ R hR hX
  simp only at hi hsz hown
  simp
  by_cases hlt : i < h.length
  · have hw : IntKind.i64.wrap (↑i + 1) = ↑i + 1 := wrap_i64 (by omega) (by omega)
    simp [hlt]
    refine callK_pure (at_c h (by omega) o i) ?_
    simp
    refine newK_intro fun x hx => ?_
    simp
    obtain ⟨hxo, hx0⟩ := owns_fresh hown hx
    have hbl := badTo_length h i
    by_cases hz : atE h i = ⟨0, 0, 0⟩
    · simp [hz]
      have hb : badTo h (i + 1) = badTo h i := by simp only [badTo]; rw [if_neg (by simp [hz])]
      refine hR (i + 1, sz, ow, s) _ _ ⟨hlt, by rw [hb]; exact hsz, st0, hle0, by rw [hb]; exact hown⟩ (by simp; omega) (Env.sub_ofList (by simp [hw, hb])) (le_right hx (le_right hx (.refl _)))
    · have hb : badTo h (i + 1) = badTo h i ++ [atE h i] := by simp only [badTo]; rw [if_pos hz]
      have hnz : (!decide ((atE h i).kind = 0) || (!decide ((atE h i).i = 0) || !decide ((atE h i).j = 0))) = true := by
        rcases hat : atE h i with ⟨k, a, b⟩
        rw [hat] at hz
        simp only [Bd.mk.injEq] at hz
        by_cases k0 : k = 0 <;> by_cases a0 : a = 0 <;> by_cases b0 : b = 0 <;> simp_all
      rw [hnz]
      simp
      have hbytes : ((badTo h i).length + 1) * 24 ≤ 140737488355328 := by omega
      have hlen : (badTo h i).length ≤ 9223372036854775806 := by omega
      simp [hsz, hbytes, hlen]
      refine appK_intro _ (by rw [List.length_map]; exact owns_upd (owns_upd hown x _ hxo) x _ hxo) fun o' s' ho => ?_
      simp
      refine hR (i + 1, 3, o', s') _ _ ⟨hlt, .inr rfl, _, ?_, by rw [hb]; simpa using ho⟩ (by simp; omega) (Env.sub_ofList (by simp [hw, hb])) (.refl _)
      exact fun j y e => le_right hx0 (le_right hx0 (.refl _)) j y (hle0 j y e)
  · simp [hlt]
    refine hX _ _ _ (by simp) ?_
    have : i = h.length := by omega
    subst this
    simp [Tryz.results72]
    have hsub : AV.sub (avB (badAll h) .no) (.list sz ((badTo h h.length).map encBd) ow) := by
      rcases hsz with he | rfl
      · unfold badAll; rw [he]; exact AV.sub.nil _ _ _ _ (.inl rfl)
      · exact AV.sub.list _ _ _
    exact fin' hsub (fun j y e => owns_le hown j y (hle0 j y e)) hK
end Go.Proofs
