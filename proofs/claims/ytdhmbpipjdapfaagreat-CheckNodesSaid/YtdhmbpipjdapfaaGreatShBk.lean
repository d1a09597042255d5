import Derived.Test.YtdhmbpipjdapfaaGreatShBj
import Derived.Test.YtdhmbpipjdapfaaGreatShBg
set_option linter.unusedSimpArgs false
set_option linter.unusedVariables false

namespace Go.Proofs
open Go Go.Sh
set_option maxRecDepth 20000
/-- The same ring, from another edge on. -/
def turned (l : List Ed) (n : Nat) : List Ed := l.drop n ++ l.take n
theorem turned_length (l : List Ed) (n : Nat) : (turned l n).length = l.length := by simp [turned]; omega
theorem turned_get (l : List Ed) (n i : Nat) (hn : n ≤ l.length) (hi : i < l.length) : (turned l n).getD i default = l.getD ((n + i) % l.length) default := by
  unfold turned
  rw [List.getD_eq_getElem?_getD, List.getD_eq_getElem?_getD]
  congr 1
  by_cases h : i < l.length - n
  · rw [List.getElem?_append_left (by simp; omega), List.getElem?_drop, Nat.mod_eq_of_lt (by omega)]
  · rw [List.getElem?_append_right (by simp; omega), List.getElem?_take_of_lt (by simp; omega), List.length_drop]
    congr 1
    rw [Nat.mod_eq_sub_mod (by omega), Nat.mod_eq_of_lt (by omega)]
    omega
theorem roundOk_turned (h : List Ev) (level : Int) (l : List Ed) (n i : Nat) (hn : n ≤ l.length) (hi : i < l.length) : roundOk h level (turned l n) i = roundOk h level l ((n + i) % l.length) := by
  have hm : ∀ x, x % l.length < l.length := fun x => Nat.mod_lt _ (by omega)
  have hx : nxt (turned l n) i = nxt l ((n + i) % l.length) := by
    unfold nxt
    rw [turned_length, turned_get l n _ hn (hm _)]
    congr 1
    rw [Nat.add_mod_mod, Nat.mod_add_mod]
    congr 1
  unfold roundOk
  rw [hx, turned_get l n i hn hi]
theorem roundE_turned (h : List Ev) (level : Int) (l : List Ed) (n : Nat) (hn : n ≤ l.length) : roundE h level (turned l n) = roundE h level l := by
  unfold roundE
  rw [turned_length]
  congr 1
  rw [Bool.eq_iff_iff, List.all_eq_true, List.all_eq_true]
  constructor
  · intro hk j hj
    have hj := List.mem_range.1 hj
    have hm : (j + (l.length - n)) % l.length < l.length := Nat.mod_lt _ (by omega)
    have := hk ((j + (l.length - n)) % l.length) (List.mem_range.2 hm)
    rw [roundOk_turned h level l n _ hn hm, Nat.add_mod_mod, show n + (j + (l.length - n)) = j + l.length by omega, Nat.add_mod_right, Nat.mod_eq_of_lt hj] at this
    exact this
  · intro hk i hi
    have hi := List.mem_range.1 hi
    rw [roundOk_turned h level l n i hn hi]
    exact hk _ (List.mem_range.2 (Nat.mod_lt _ (by omega)))
end Go.Proofs

namespace Go.Proofs
open Go Go.Sh
set_option maxRecDepth 20000
@[simp] theorem ti55 : tiOf Tryz.prog 55 = some ⟨.struct [(0, 22), (1, 3), (2, 36), (3, 3)], 4, 64, [.list 0 [] .clip, .int .i64 0, .list 0 [] .clip, .int .i64 0]⟩ := by kernel_rfl
theorem tkApp_intro {P : Program} {n : Nat} {cr : List (Nat × AV)} {e sz : Nat} {xs ys : List (List AV)} {o : Sh.Own} {d : Option Nat} {l : List AOp} {K : Env → St → Prop} {env : Env} {st : St} (st0 : St) (h : Owns st0 e sz xs.length o st)
    (hk : ∀ o' st', Owns st0 e sz (xs.length + ys.length) o' st' → vcT P n cr l (env.put d (.list sz (xs ++ ys) o')) st' K) : tkApp P n cr e sz xs ys o d l K env st := ⟨st0, h, hk⟩
theorem turns_c (h : List Ev) (hl : h.length ≤ 140737488355328) (o : Sh.Own) (level : Int) (l : List Ed) (hll : l.length ≤ 140737488355328) (o' : Sh.Own) (n : Int) :
    PureC Tryz.prog 9 [.agg [avH h o, .int .i64 level, avE l o', .int .i64 n]] (.bool true) := by
  refine pure_of_dwp Tryz.func9 rfl (by kernel_rfl) (by simp [Tryz.ntmps9]) fun st K hK => ?_
  rw [Tryz.ntmps9]
  refine dwp_of_vk (by kernel_rfl) ?_
  simp
  refine newK_intro fun a ha => ?_
  have hle : ∀ A, St.le st (st.upd a A) := fun A => le_right ha (.refl _)
  simp
  refine callK_pure shown_c ?_
  simp
  refine callK_pure (few_c h hl o) ?_
  cases hf : few13 h
  · simp [Tryz.results9]
    exact fin' (.refl _) (hle _) hK
  simp
  by_cases h1 : (100 : Int) < l.length
  · simp [h1, Tryz.results9]
    exact fin' (.refl _) (hle _) hK
  by_cases h2 : n < 0
  · simp [h1, h2, Tryz.results9]
    exact fin' (.refl _) (hle _) hK
  by_cases h3 : (l.length : Int) < n
  · simp [h1, h2, h3, Tryz.results9]
    exact fin' (.refl _) (hle _) hK
  obtain ⟨m, rfl⟩ : ∃ m : Nat, n = m := ⟨n.toNat, by omega⟩
  have hm : m ≤ l.length := by omega
  simp [h1, h2, h3]
  refine lk_draw mixed [[], [], [], [], [], [], [], [], [], []] [] (by kernel_rfl) ?_
  have ha1 : ((l.map encEd).all fun y => y.all AV.one) = true := by simp [AV.one]
  have ha2 : ∀ m, (((l.map encEd).drop m).all fun y => y.all AV.one) = true := fun m => List.all_eq_true.2 fun x hx => List.all_eq_true.1 ha1 x (List.mem_of_mem_drop hx)
  have ha3 : ∀ m, (((l.map encEd).take m).all fun y => y.all AV.one) = true := fun m => List.all_eq_true.2 fun x hx => List.all_eq_true.1 ha1 x (List.mem_of_mem_take hx)
  have ht : List.take l.length (l.map encEd) = l.map encEd := List.take_of_length_le (by simp)
  have hb1 : (l.length - m) * 40 ≤ 140737488355328 := by omega
  have hb2 : l.length - m ≤ 9223372036854775807 := by omega
  simp [-AV.one, -List.all_eq_true, hm, ht, ha2, ha3, hb1, hb2]
  refine tkApp_intro _ rfl fun o1 s1 hs1 => ?_
  have hb3 : l.length * 40 ≤ 140737488355328 := by omega
  have hb4 : l.length ≤ 9223372036854775807 := by omega
  simp [-AV.one, -List.all_eq_true, hm, ht, ha2, ha3, hb1, hb2, hb3, hb4]
  refine tkApp_intro _ (by simpa using hs1) fun o2 s2 hs2 => ?_
  simp
  refine callK_pure (round_c h hl o level l hll o') ?_
  simp
  have h2c := round_c h hl o level (turned l m) (by rw [turned_length]; exact hll) o2
  rw [roundE_turned h level l m hm] at h2c
  refine callK_pure (r := .bool (roundE h level l)) (by simpa [turned, avE, List.map_drop, List.map_take] using h2c) ?_
  simp [Tryz.results9]
  exact fin' (.refl _) (fun j y e => owns_le hs2 j y (hle _ j y e)) hK
end Go.Proofs

namespace Go.Proofs
open Go Go.Sh
set_option maxRecDepth 20000
theorem bO3 : Tryz.prog.bytesOf 3 = 8 := by kernel_rfl
theorem bO30 : Tryz.prog.bytesOf 30 = 48 := by kernel_rfl
theorem bO44 : Tryz.prog.bytesOf 44 = 40 := by kernel_rfl
theorem cO3 : Tryz.prog.cellsOf 3 = 1 := by kernel_rfl
theorem cO30 : Tryz.prog.cellsOf 30 = 4 := by kernel_rfl
theorem cO44 : Tryz.prog.cellsOf 44 = 5 := by kernel_rfl
theorem shape_str {P : Program} {m : Nat} {t : TypeId} {us : List AV} {fs : Array Field} (hu : P.underlying t = some (.struct fs)) (h : Shape P (m + 1) t us) : shapeFields (Shape P m) (fs.toList.map (·.type)) us := by
  simpa only [Shape, hu] using h
theorem shape_sl {P : Program} {m : Nat} {t e : TypeId} {us : List AV} (hu : P.underlying t = some (.slice e)) (h : Shape P (m + 1) t us) : ∃ xs, us = [.list (P.cellsOf e) xs .no] ∧ xs.length * P.bytesOf e ≤ reachBytes ∧ ∀ x ∈ xs, Shape P m e x := by
  simpa only [Shape, hu] using h
theorem shape3 {m : Nat} {us : List AV} (h : Shape Tryz.prog (m + 1) 3 us) : ∃ n : Int, us = [.int .i64 n] := by
  simp only [Shape, Tryz.underlying3] at h
  obtain ⟨n, rfl, _⟩ := h
  exact ⟨n, rfl⟩
theorem shape9 {m : Nat} {us : List AV} (h : Shape Tryz.prog (m + 1) 9 us) : ∃ s : ByteArray, us = [.str s] ∧ s.size ≤ reachBytes := by
  simp only [Shape, Tryz.underlying9] at h
  exact h
theorem shape30 {m : Nat} {us : List AV} (h : Shape Tryz.prog (m + 2) 30 us) : ∃ e : Ev, us = encEv e := by
  replace h := shape_str Tryz.underlying30 h
  simp only [List.map_cons, List.map_nil, shapeFields] at h
  obtain ⟨_, _, rfl, h1, _, _, rfl, h2, _, _, rfl, h3, _, _, rfl, h4, rfl⟩ := h
  obtain ⟨k, rfl⟩ := shape3 h1
  obtain ⟨t, rfl⟩ := shape3 h2
  obtain ⟨a, rfl, _⟩ := shape9 h3
  obtain ⟨b, rfl, _⟩ := shape9 h4
  exact ⟨⟨k, t, a, b⟩, rfl⟩
theorem shape22 {m : Nat} {us : List AV} (h : Shape Tryz.prog (m + 3) 22 us) : ∃ l : List Ev, us = [avH l .no] ∧ l.length ≤ 140737488355328 := by
  replace h := shape_sl Tryz.underlying22 h
  rw [cO30, bO30] at h
  obtain ⟨xs, rfl, hl, hx⟩ := h
  obtain ⟨l, rfl⟩ := map_of_all (enc := encEv) fun x hx' => shape30 (hx x hx')
  refine ⟨l, rfl, ?_⟩
  simp only [List.length_map, reachBytes] at hl
  omega
theorem shape44 {m : Nat} {us : List AV} (h : Shape Tryz.prog (m + 2) 44 us) : ∃ e : Ed, us = encEd e := by
  replace h := shape_str Tryz.underlying44 h
  simp only [List.map_cons, List.map_nil, shapeFields] at h
  obtain ⟨_, _, rfl, h1, _, _, rfl, h2, _, _, rfl, h3, _, _, rfl, h4, _, _, rfl, h5, rfl⟩ := h
  obtain ⟨a, rfl⟩ := shape3 h1
  obtain ⟨b, rfl⟩ := shape3 h2
  obtain ⟨c, rfl⟩ := shape3 h3
  obtain ⟨d, rfl⟩ := shape3 h4
  obtain ⟨e, rfl⟩ := shape3 h5
  exact ⟨⟨a, b, c, d, e⟩, rfl⟩
theorem shape36 {m : Nat} {us : List AV} (h : Shape Tryz.prog (m + 3) 36 us) : ∃ l : List Ed, us = [avE l .no] ∧ l.length ≤ 140737488355328 := by
  replace h := shape_sl Tryz.underlying36 h
  rw [cO44, bO44] at h
  obtain ⟨xs, rfl, hl, hx⟩ := h
  obtain ⟨l, rfl⟩ := map_of_all (enc := encEd) fun x hx' => shape44 (hx x hx')
  refine ⟨l, rfl, ?_⟩
  simp only [List.length_map, reachBytes] at hl
  omega
theorem turns_pure (u : AV) (h : ShapeV Tryz.prog 12 55 u) : PureC Tryz.prog 9 [u] (.bool true) := by
  simp only [ShapeV, Tryz.underlying55] at h
  obtain ⟨us, rfl, h⟩ := h
  replace h := shape_str Tryz.underlying55 h
  simp only [List.map_cons, List.map_nil, shapeFields] at h
  obtain ⟨_, _, rfl, h1, _, _, rfl, h2, _, _, rfl, h3, _, _, rfl, h4, rfl⟩ := h
  obtain ⟨l, rfl, hl⟩ := shape22 h1
  obtain ⟨lv, rfl⟩ := shape3 h2
  obtain ⟨r, rfl, hr⟩ := shape36 h3
  obtain ⟨n, rfl⟩ := shape3 h4
  exact turns_c l hl .no lv r hr .no n
end Go.Proofs
