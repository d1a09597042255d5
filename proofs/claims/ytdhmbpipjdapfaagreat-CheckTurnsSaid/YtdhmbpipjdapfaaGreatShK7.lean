import Derived.Test.YtdhmbpipjdapfaaGreatShK6
namespace Go.Proofs
open Go Go.Sh
set_option maxRecDepth 20000
theorem resAV_cell {P : Program} {env : Env} {st : St} {x t : Nat} {i : TI} {id off : Nat} {tt : TypeId} {cs : List AV} (ht : tiOf P t = some i) (hx : env x = .box id off) (hs : st id = some (.cells tt cs))
    (hl : off + i.size ≤ cs.length ∧ (i.k.agg = false → i.size = 1)) : resAV P env st [.cell x t] = some (if i.k.agg then .agg ((cs.drop off).take i.size) else cs.getD off .undef) := by
  simp only [resAV, resAll, resOne, ht, hx, hs]
  rw [if_pos hl]
def endP (txn : Int) (e : Ev) : Bool := decide (e.txn = txn ∧ (e.kind = 4 ∨ e.kind = 5))
def endOf (h : List Ev) (txn : Int) : Int := idxOf h (endP txn)
structure Lf where
  txn : Int
  frm : Int
  to : Int
  com : Bool
  deriving Inhabited, DecidableEq
@[simp] def encLf (l : Lf) : List AV := [.int .i64 l.txn, .int .i64 l.frm, .int .i64 l.to, .bool l.com]
def lifeOf (h : List Ev) (txn frm : Int) : Lf := ⟨txn, frm, if endOf h txn < 0 then h.length else endOf h txn, decide (0 ≤ endOf h txn ∧ (h.getD (endOf h txn).toNat default).kind = 4)⟩
theorem life_c (h : List Ev) (hl : h.length ≤ 140737488355328) (o : Sh.Own) (f : Nat) (hf : f < h.length) : PureC Tryz.prog 112 [avH h o, .int .i64 f] (.agg (encLf (lifeOf h h[f].txn f))) := by
  refine pure_of_dwp Tryz.func112 rfl (by kernel_rfl) (by simp [Tryz.ntmps112]) fun st K hK => ?_
  rw [Tryz.ntmps112]
  refine dwp_of_vk (by kernel_rfl) ?_
  simp [hf]
  refine newK_intro fun r hr => ?_
  simp [hf]
  refine newK_intro fun q hq => ?_
  rw [upd_none_iff] at hq
  obtain ⟨hqr, hq⟩ := hq
  have hrq := Ne.symm hqr
  simp [hqr, hrq]
  refine callK_intro (of_c h o h[f].txn fun a b ha hb hab => ?_)
  simp only [upd_none_iff] at ha hb
  obtain ⟨haq, -, har, ha⟩ := ha
  obtain ⟨hbq, -, hbr, hb⟩ := hb
  simp
  refine lk_rangeFunc (gf := 124) (caps := [.box a 0, .box b 0]) (by simp) fun l hl' => ?_
  simp only [upd_none_iff] at hl'
  obtain ⟨hlb, hla, hlq, -, hlr, hl'⟩ := hl'
  have hql := Ne.symm hlq
  have hrl := Ne.symm hlr
  have hqa := Ne.symm haq
  have hqb := Ne.symm hbq
  have hra := Ne.symm har
  have hrb := Ne.symm hbr
  generalize hO : (AObj.loop _ _ _ _ _ none : AObj) = O
  refine of1_c h hl o h[f].txn (fun i => ((((st.upd r (.cells 32 [.int .i64 0, .int .i64 0, .int .i64 0, .bool false])).upd q (.cells 32 [.int .i64 h[f].txn, .int .i64 f, .int .i64 h.length, .bool false])).upd a (.cells 22 [avH h o])).upd b (.cells 3 [.int .i64 h[f].txn])).upd l O)
    (fun i => ∀ j (hj : j < h.length), j < i → endP h[f].txn h[j] = false) (fun s => s l = some (loopLeft (.exit 0) O) ∧ s q = some (.cells 32 (encLf (lifeOf h h[f].txn f))) ∧ s r = some (.cells 32 [.int .i64 0, .int .i64 0, .int .i64 0, .bool false]) ∧ St.le st s) ?_ (fun _ _ hj => absurd hj (by omega)) (fun i hi => ⟨O, by simp⟩) ?_ ?_ ?_ ?_ ?_ ?_
  · refine le_left (by simp) (le_left (by simp [Ne.symm hlb]) (le_left (by simp [hab, Ne.symm hla]) (le_left (by simp [hql, hqa, hqb]) (le_left (by simp [hrl, hra, hrb, hrq]) ?_))))
    repeat first | exact .refl _ | refine le_right (by assumption) ?_
  · intro i hi
    simp [hab, Ne.symm hla]
  · intro i hi
    simp [Ne.symm hlb]
  · intro i hi hno ht K' hK1 hK2
    refine dround_intro' hO (by simp) rfl (by kernel_rfl) (by kernel_rfl) (by kernel_rfl) (by kernel_rfl) fun R hR hR2 => ?_
    simp
    refine newK_intro fun x hx => ?_
    obtain ⟨hrx, hqx, hax, hbx, hx0⟩ : r ≠ x ∧ q ≠ x ∧ a ≠ x ∧ b ≠ x ∧ st x = none := by
      rcases del_none hx with rfl | hx
      · exact ⟨hrl, hql, Ne.symm hla, Ne.symm hlb, hl'⟩
      · simp only [upd_none_iff] at hx
        obtain ⟨-, h5, h4, h1, h2, h3⟩ := hx
        exact ⟨Ne.symm h2, Ne.symm h1, Ne.symm h4, Ne.symm h5, h3⟩
    simp
    refine callK_pure (ends_c h[i]) ?_
    simp
    have hxq := Ne.symm hqx
    by_cases he : h[i].kind = 4 ∨ h[i].kind = 5
    · have hend : endOf h h[f].txn = i := idxOf_hit hi (by simp [endP, ht, he]) hno
      have hb : (decide (h[i].kind = 4) || decide (h[i].kind = 5)) = true := by simpa using he
      simp [hb]
      refine lk_draw mixed [[], [], [], [], [], [(3, .tmp 26)], [], [(3, .tmp 26), (3, .tmp 29)]] [] (by kernel_rfl) ?_
      simp [addrOf, apartAt, szOf, hxq, hqx, hql, hqa, hqb, hqr]
      refine hR2 (.exit 0) _ (hK2 _ ⟨by simp, ?_, ?_, ?_⟩)
      · simp [hql, lifeOf, hend, hi]
        omega
      · simp [hrl, hrq, hrx, hra, hrb]
      · repeat first | exact .refl _ | refine le_right (by assumption) ?_ | refine le_del (by assumption) ?_
    · have hb : (decide (h[i].kind = 4) || decide (h[i].kind = 5)) = false := by simpa using he
      simp [hb]
      refine hR _ (hK1 _ (fun j hj hji => ?_) ?_)
      · by_cases e : j = i
        · subst e; simp [endP, he]
        · exact hno j hj (by omega)
      refine le_left (by simp) (le_left (by simp [Ne.symm hlb, hbx]) (le_left (by simp [Ne.symm hla, hax, hab]) (le_left (by simp [hql, hqx, hqa, hqb]) (le_left (by simp [hrl, hrx, hra, hrb, hrq]) ?_))))
      repeat first | exact .refl _ | refine le_right (by assumption) ?_ | refine le_del (by assumption) ?_
  · intro i hi hno ht
    refine ⟨fun j hj hji => ?_, .refl _⟩
    by_cases e : j = i
    · subst e; simp [endP, ht]
    · exact hno j hj (by omega)
  · intro s hno hs
    have hend : endOf h h[f].txn = -1 := idxOf_miss fun j hj => hno j hj hj
    have hq' := hs q (.cells 32 (encLf (lifeOf h h[f].txn f))) (by simp [hql, hqa, hqb, hqr, lifeOf, hend])
    have hr' := hs r (.cells 32 [.int .i64 0, .int .i64 0, .int .i64 0, .bool false]) (by simp [hrl, hra, hrb, hrq])
    refine ⟨none, ?_, ?_⟩
    · rw [hO]; exact hs l _ (by simp)
    simp [hql, hrl, cellsAt_of hq', cellsAt_of hr']
    refine ⟨_, resAV_cell (id := r) (off := 0) (tt := 32) (cs := encLf (lifeOf h h[f].txn f)) ti32 (by simp) (by simp) (by simp [TK.agg]), _, .refl _, st, ?_, by simpa using hK⟩
    refine le_right hr (le_del hl' fun j y e => ?_)
    have hjr : j ≠ r := by rintro rfl; rw [hr] at e; cases e
    have hjq : j ≠ q := by rintro rfl; rw [hq] at e; cases e
    have hja : j ≠ a := by rintro rfl; rw [ha] at e; cases e
    have hjb : j ≠ b := by rintro rfl; rw [hb] at e; cases e
    have hjl : j ≠ l := by rintro rfl; rw [hl'] at e; cases e
    exact hs j y (by simp [hjr, hjq, hja, hjb, hjl, e])
  · rintro s ⟨h1, h2, h3, h4⟩
    refine ⟨some (.exit 0), ?_, ?_⟩
    · rw [h1, ← hO]; simp
    simp [hql, hrl, cellsAt_of h2, cellsAt_of h3]
    refine ⟨_, resAV_cell (id := r) (off := 0) (tt := 32) (cs := encLf (lifeOf h h[f].txn f)) ti32 (by simp) (by simp) (by simp [TK.agg]), _, .refl _, st, ?_, by simpa using hK⟩
    exact le_right hr (le_del hl' h4)
end Go.Proofs
