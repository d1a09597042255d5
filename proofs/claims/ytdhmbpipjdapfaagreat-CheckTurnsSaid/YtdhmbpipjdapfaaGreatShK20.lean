import Derived.Test.YtdhmbpipjdapfaaGreatShK19
namespace Go.Proofs
open Go Go.Sh
set_option maxRecDepth 20000
@[simp] theorem ti55 : tiOf Tryz.prog 55 = some ⟨.struct [(0, 22), (1, 3), (2, 36), (3, 3)], 4, 64, [.list 0 [] .clip, .int .i64 0, .list 0 [] .clip, .int .i64 0]⟩ := by kernel_rfl
theorem tkApp_intro {P : Program} {n : Nat} {cr : List (Nat × AV)} {e sz : Nat} {xs ys : List (List AV)} {o : Sh.Own} {d : Option Nat} {l : List AOp} {K : Env → St → Prop} {env : Env} {st : St} (st0 : St) (h : Owns st0 e sz xs.length o st)
    (hk : ∀ o' st', Owns st0 e sz (xs.length + ys.length) o' st' → vcT P n cr l (env.put d (.list sz (xs ++ ys) o')) st' K) : tkApp P n cr e sz xs ys o d l K env st := ⟨st0, h, hk⟩
theorem turns_c (h : List Ev) (hl : h.length ≤ 140737488355328) (o : Sh.Own) (level : Int) (l : List Ed) (hll : l.length ≤ 140737488355328) (o' : Sh.Own) (n : Int) :
    PureC Tryz.prog 9 [.agg [avH h o, .int .i64 level, avE l o', .int .i64 n]] (.bool true) := by
  refine pure_of_dwp Tryz.func9 rfl (by kernel_rfl) (by simp [Tryz.ntmps9]) fun st K hK => ?_
  rw [Tryz.ntmps9]
  refine dwp_of_vk (by kernel_rfl) ?_
  simp
  refine newK_intro fun a ha => ?_
  have hle : ∀ A, St.le st (st.upd a A) := fun A => le_right ha (.refl _)
  simp
  refine callK_pure shown_c ?_
  simp
  refine callK_pure (few_c h hl o) ?_
  cases hf : few13 h
  · simp [Tryz.results9]
    exact fin' (.refl _) (hle _) hK
  simp
  by_cases h1 : (100 : Int) < l.length
  · simp [h1, Tryz.results9]
    exact fin' (.refl _) (hle _) hK
  by_cases h2 : n < 0
  · simp [h1, h2, Tryz.results9]
    exact fin' (.refl _) (hle _) hK
  by_cases h3 : (l.length : Int) < n
  · simp [h1, h2, h3, Tryz.results9]
    exact fin' (.refl _) (hle _) hK
  obtain ⟨m, rfl⟩ : ∃ m : Nat, n = m := ⟨n.toNat, by omega⟩
  have hm : m ≤ l.length := by omega
  simp [h1, h2, h3]
  refine lk_draw mixed [[], [], [], [], [], [], [], [], [], []] [] (by kernel_rfl) ?_
  have ha1 : ((l.map encEd).all fun y => y.all AV.one) = true := by simp [AV.one]
  have ha2 : ∀ m, (((l.map encEd).drop m).all fun y => y.all AV.one) = true := fun m => List.all_eq_true.2 fun x hx => List.all_eq_true.1 ha1 x (List.mem_of_mem_drop hx)
  have ha3 : ∀ m, (((l.map encEd).take m).all fun y => y.all AV.one) = true := fun m => List.all_eq_true.2 fun x hx => List.all_eq_true.1 ha1 x (List.mem_of_mem_take hx)
  have ht : List.take l.length (l.map encEd) = l.map encEd := List.take_of_length_le (by simp)
  have hb1 : (l.length - m) * 40 ≤ 140737488355328 := by omega
  have hb2 : l.length - m ≤ 9223372036854775807 := by omega
  simp [-AV.one, -List.all_eq_true, hm, ht, ha2, ha3, hb1, hb2]
  refine tkApp_intro _ rfl fun o1 s1 hs1 => ?_
  have hb3 : l.length * 40 ≤ 140737488355328 := by omega
  have hb4 : l.length ≤ 9223372036854775807 := by omega
  simp [-AV.one, -List.all_eq_true, hm, ht, ha2, ha3, hb1, hb2, hb3, hb4]
  refine tkApp_intro _ (by simpa using hs1) fun o2 s2 hs2 => ?_
  simp
  refine callK_pure (round_c h hl o level l hll o') ?_
  simp
  have h2c := round_c h hl o level (turned l m) (by rw [turned_length]; exact hll) o2
  rw [roundE_turned h level l m hm] at h2c
  refine callK_pure (r := .bool (roundE h level l)) (by simpa [turned, avE, List.map_drop, List.map_take] using h2c) ?_
  simp [Tryz.results9]
  exact fin' (.refl _) (fun j y e => owns_le hs2 j y (hle _ j y e)) hK
end Go.Proofs
