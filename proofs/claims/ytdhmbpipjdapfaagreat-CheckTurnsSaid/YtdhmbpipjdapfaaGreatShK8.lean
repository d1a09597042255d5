import Derived.Test.YtdhmbpipjdapfaaGreatShK7
namespace Go.Proofs
open Go Go.Sh
set_option maxRecDepth 20000
def lastP (txn : Int) (key : ByteArray) (e : Ev) : Bool := decide (e.txn = txn ∧ e.kind = 3 ∧ e.key = key)
def lastTo (h : List Ev) (txn : Int) (key : ByteArray) (before : Int) : Nat → Int
  | 0 => -1
  | n + 1 => if (n : Int) < before ∧ lastP txn key (h.getD n default) = true then n else lastTo h txn key before n
def lastOf (h : List Ev) (txn : Int) (key : ByteArray) (before : Int) : Int := lastTo h txn key before h.length
theorem last_c (h : List Ev) (hl : h.length ≤ 140737488355328) (o : Sh.Own) (txn : Int) (key : ByteArray) (before : Int) : PureC Tryz.prog 117 [avH h o, .int .i64 txn, .str key, .int .i64 before] (.int .i64 (lastOf h txn key before)) := by
  refine pure_of_dwp Tryz.func117 rfl (by kernel_rfl) (by simp [Tryz.ntmps117]) fun st K hK => ?_
  rw [Tryz.ntmps117]
  refine dwp_of_vk (by kernel_rfl) ?_
  simp
  refine newK_intro fun u hu => ?_
  simp
  refine newK_intro fun v hv => ?_
  rw [upd_none_iff] at hv
  obtain ⟨hvu, hv⟩ := hv
  have huv := Ne.symm hvu
  simp
  refine newK_intro fun q hq => ?_
  simp only [upd_none_iff] at hq
  obtain ⟨hqv, hqu, hq⟩ := hq
  have hvq := Ne.symm hqv
  have huq := Ne.symm hqu
  simp
  refine callK_intro (of_c h o txn fun a b ha hb hab => ?_)
  simp only [upd_none_iff] at ha hb
  obtain ⟨haq, -, hav, hau, ha⟩ := ha
  obtain ⟨hbq, -, hbv, hbu, hb⟩ := hb
  simp
  refine lk_rangeFunc (gf := 124) (caps := [.box a 0, .box b 0]) (by simp) fun l hl' => ?_
  simp only [upd_none_iff] at hl'
  obtain ⟨hlb, hla, hlq, -, hlv, hlu, hl'⟩ := hl'
  have hql := Ne.symm hlq
  have hvl := Ne.symm hlv
  have hul := Ne.symm hlu
  have hqa := Ne.symm haq
  have hqb := Ne.symm hbq
  have hva := Ne.symm hav
  have hvb := Ne.symm hbv
  have hua := Ne.symm hau
  have hub := Ne.symm hbu
  have hal := Ne.symm hla
  have hbl := Ne.symm hlb
  generalize hO : (AObj.loop _ _ _ _ _ none : AObj) = O
  refine of1_c h hl o txn (fun i => (((((st.upd u (.cells 9 [.str key])).upd v (.cells 3 [.int .i64 before])).upd q (.cells 3 [.int .i64 (lastTo h txn key before i)])).upd a (.cells 22 [avH h o])).upd b (.cells 3 [.int .i64 txn])).upd l O)
    (fun i => True) (fun s => False) ?_ trivial (fun i hi => ⟨O, by simp⟩) ?_ ?_ ?_ ?_ ?_ (fun _ h => h.elim)
  · refine le_left (by simp) (le_left (by simp [hbl]) (le_left (by simp [hab, hal]) (le_left (by simp [hql, hqa, hqb, lastTo]) (le_left (by simp [hvl, hva, hvb, hvq]) (le_left (by simp [hul, hua, hub, huq, huv]) ?_)))))
    repeat first | exact .refl _ | refine le_right (by assumption) ?_
  · intro i hi
    simp [hab, hal]
  · intro i hi
    simp [hbl]
  · intro i hi _ ht K' hK1 hK2
    refine dround_intro' hO (by simp) rfl (by kernel_rfl) (by kernel_rfl) (by kernel_rfl) (by kernel_rfl) fun R hR hR2 => ?_
    simp
    refine newK_intro fun x hx => ?_
    obtain ⟨hux, hvx, hqx, hax, hbx, hx0⟩ : u ≠ x ∧ v ≠ x ∧ q ≠ x ∧ a ≠ x ∧ b ≠ x ∧ st x = none := by
      rcases del_none hx with rfl | hx
      · exact ⟨hul, hvl, hql, hal, hbl, hl'⟩
      · simp only [upd_none_iff] at hx
        obtain ⟨-, h5, h4, h1, h2, h3, h6⟩ := hx
        exact ⟨Ne.symm h3, Ne.symm h2, Ne.symm h1, Ne.symm h4, Ne.symm h5, h6⟩
    have hxu := Ne.symm hux
    have hxv := Ne.symm hvx
    have hxq := Ne.symm hqx
    simp [hvx, hvl, hva, hvb, hvq]
    have hdef : h.getD i default = h[i] := by simp [hi]
    have yes : ∀ s, lastP txn key h[i] = true → (i : Int) < before → s u = some (.cells 9 [.str key]) → s v = some (.cells 3 [.int .i64 before]) → s q = some (.cells 3 [.int .i64 i]) → s a = some (.cells 22 [avH h o]) → s b = some (.cells 3 [.int .i64 txn]) → St.le st s → R none s := by
      intro s p1 p2 h1 h2 h3 h4 h5 h6
      refine hR _ (hK1 _ trivial ?_)
      have : lastTo h txn key before (i + 1) = i := by simp only [lastTo, hdef]; rw [if_pos ⟨p2, p1⟩]
      rw [this]
      refine le_left (by simp) (le_left (by simp [hbl, h5]) (le_left (by simp [hal, h4]) (le_left (by simp [hql, h3]) (le_left (by simp [hvl, h2]) (le_left (by simp [hul, h1]) (le_right hl' h6))))))
    have no : ∀ s, ¬ ((i : Int) < before ∧ lastP txn key h[i] = true) → s u = some (.cells 9 [.str key]) → s v = some (.cells 3 [.int .i64 before]) → s q = some (.cells 3 [.int .i64 (lastTo h txn key before i)]) → s a = some (.cells 22 [avH h o]) → s b = some (.cells 3 [.int .i64 txn]) → St.le st s → R none s := by
      intro s p1 h1 h2 h3 h4 h5 h6
      refine hR _ (hK1 _ trivial ?_)
      have : lastTo h txn key before (i + 1) = lastTo h txn key before i := by simp only [lastTo, hdef]; rw [if_neg p1]
      rw [this]
      refine le_left (by simp) (le_left (by simp [hbl, h5]) (le_left (by simp [hal, h4]) (le_left (by simp [hql, h3]) (le_left (by simp [hvl, h2]) (le_left (by simp [hul, h1]) (le_right hl' h6))))))
    by_cases p1 : (i : Int) < before
    · by_cases p2 : h[i].kind = 3
      · by_cases p3 : h[i].key = key
        · simp [p1, p2, p3, hux, hul, hua, hub, huq, huv, hqx, hql, hqa, hqb, hqv, hqu]
          refine yes _ (by simp [lastP, ht, p2, p3]) p1 ?_ ?_ ?_ ?_ ?_ ?_
          all_goals first | (simp [hux, hul, hua, hub, huq, huv, hvx, hvl, hva, hvb, hvq, hvu, hqx, hql, hqa, hqb, hqv, hqu, hax, hal, haq, hav, hau, hab, hbx, hbl, hbq, hbv, hbu]; done) | (repeat first | exact .refl _ | refine le_right (by assumption) ?_ | refine le_del (by assumption) ?_)
        · simp [p1, p2, p3, hux, hul, hua, hub, huq, huv, hqx, hql, hqa, hqb, hqv, hqu]
          refine no _ (by simp [lastP, ht, p2, p3]) ?_ ?_ ?_ ?_ ?_ ?_
          all_goals first | (simp [hux, hul, hua, hub, huq, huv, hvx, hvl, hva, hvb, hvq, hvu, hqx, hql, hqa, hqb, hqv, hqu, hax, hal, haq, hav, hau, hab, hbx, hbl, hbq, hbv, hbu]; done) | (repeat first | exact .refl _ | refine le_right (by assumption) ?_ | refine le_del (by assumption) ?_)
      · simp [p1, p2, hux, hul, hua, hub, huq, huv, hqx, hql, hqa, hqb, hqv, hqu]
        refine no _ (by simp [lastP, ht, p2]) ?_ ?_ ?_ ?_ ?_ ?_
        all_goals first | (simp [hux, hul, hua, hub, huq, huv, hvx, hvl, hva, hvb, hvq, hvu, hqx, hql, hqa, hqb, hqv, hqu, hax, hal, haq, hav, hau, hab, hbx, hbl, hbq, hbv, hbu]; done) | (repeat first | exact .refl _ | refine le_right (by assumption) ?_ | refine le_del (by assumption) ?_)
    · simp [p1, hux, hul, hua, hub, huq, huv, hqx, hql, hqa, hqb, hqv, hqu]
      refine no _ (by simp [p1]) ?_ ?_ ?_ ?_ ?_ ?_
      all_goals first | (simp [hux, hul, hua, hub, huq, huv, hvx, hvl, hva, hvb, hvq, hvu, hqx, hql, hqa, hqb, hqv, hqu, hax, hal, haq, hav, hau, hab, hbx, hbl, hbq, hbv, hbu]; done) | (repeat first | exact .refl _ | refine le_right (by assumption) ?_ | refine le_del (by assumption) ?_)
  · intro i hi _ ht
    have hdef : h.getD i default = h[i] := by simp [hi]
    have : lastTo h txn key before (i + 1) = lastTo h txn key before i := by simp only [lastTo, hdef]; rw [if_neg (by simp [lastP, ht])]
    rw [this]
    exact ⟨trivial, .refl _⟩
  · intro s _ hs
    have hq' := hs q (.cells 3 [.int .i64 (lastOf h txn key before)]) (by simp [hql, hqa, hqb, hqv, hqu, lastOf])
    refine ⟨none, ?_, ?_⟩
    · rw [hO]; exact hs l _ (by simp)
    simp [hql, cellsAt_of hq', Tryz.results117]
    refine fin' (.refl _) ?_ hK
    refine le_del hl' fun j y e => ?_
    have hju : j ≠ u := by rintro rfl; rw [hu] at e; cases e
    have hjv : j ≠ v := by rintro rfl; rw [hv] at e; cases e
    have hjq : j ≠ q := by rintro rfl; rw [hq] at e; cases e
    have hja : j ≠ a := by rintro rfl; rw [ha] at e; cases e
    have hjb : j ≠ b := by rintro rfl; rw [hb] at e; cases e
    have hjl : j ≠ l := by rintro rfl; rw [hl'] at e; cases e
    exact hs j y (by simp [hju, hjv, hjq, hja, hjb, hjl, e])
end Go.Proofs
