import Derived.Test.YtdhmbpipjdapfaaGreatShK20
import Derived.Test.YtdhmbpipjdapfaaGreatShZ
namespace Go.Proofs
open Go Go.Sh
set_option maxRecDepth 20000
theorem bO3 : Tryz.prog.bytesOf 3 = 8 := by kernel_rfl
theorem bO30 : Tryz.prog.bytesOf 30 = 48 := by kernel_rfl
theorem bO44 : Tryz.prog.bytesOf 44 = 40 := by kernel_rfl
theorem cO3 : Tryz.prog.cellsOf 3 = 1 := by kernel_rfl
theorem cO30 : Tryz.prog.cellsOf 30 = 4 := by kernel_rfl
theorem cO44 : Tryz.prog.cellsOf 44 = 5 := by kernel_rfl
theorem shape_str {P : Program} {m : Nat} {t : TypeId} {us : List AV} {fs : Array Field} (hu : P.underlying t = some (.struct fs)) (h : Shape P (m + 1) t us) : shapeFields (Shape P m) (fs.toList.map (·.type)) us := by
  simpa only [Shape, hu] using h
theorem shape_sl {P : Program} {m : Nat} {t e : TypeId} {us : List AV} (hu : P.underlying t = some (.slice e)) (h : Shape P (m + 1) t us) : ∃ xs, us = [.list (P.cellsOf e) xs .no] ∧ xs.length * P.bytesOf e ≤ reachBytes ∧ ∀ x ∈ xs, Shape P m e x := by
  simpa only [Shape, hu] using h
theorem shape3 {m : Nat} {us : List AV} (h : Shape Tryz.prog (m + 1) 3 us) : ∃ n : Int, us = [.int .i64 n] := by
  simp only [Shape, Tryz.underlying3] at h
  obtain ⟨n, rfl, _⟩ := h
  exact ⟨n, rfl⟩
theorem shape9 {m : Nat} {us : List AV} (h : Shape Tryz.prog (m + 1) 9 us) : ∃ s : ByteArray, us = [.str s] ∧ s.size ≤ reachBytes := by
  simp only [Shape, Tryz.underlying9] at h
  exact h
theorem shape30 {m : Nat} {us : List AV} (h : Shape Tryz.prog (m + 2) 30 us) : ∃ e : Ev, us = encEv e := by
  replace h := shape_str Tryz.underlying30 h
  simp only [List.map_cons, List.map_nil, shapeFields] at h
  obtain ⟨_, _, rfl, h1, _, _, rfl, h2, _, _, rfl, h3, _, _, rfl, h4, rfl⟩ := h
  obtain ⟨k, rfl⟩ := shape3 h1
  obtain ⟨t, rfl⟩ := shape3 h2
  obtain ⟨a, rfl, _⟩ := shape9 h3
  obtain ⟨b, rfl, _⟩ := shape9 h4
  exact ⟨⟨k, t, a, b⟩, rfl⟩
theorem shape22 {m : Nat} {us : List AV} (h : Shape Tryz.prog (m + 3) 22 us) : ∃ l : List Ev, us = [avH l .no] ∧ l.length ≤ 140737488355328 := by
  replace h := shape_sl Tryz.underlying22 h
  rw [cO30, bO30] at h
  obtain ⟨xs, rfl, hl, hx⟩ := h
  obtain ⟨l, rfl⟩ := map_of_all (enc := encEv) fun x hx' => shape30 (hx x hx')
  refine ⟨l, rfl, ?_⟩
  simp only [List.length_map, reachBytes] at hl
  omega
theorem shape44 {m : Nat} {us : List AV} (h : Shape Tryz.prog (m + 2) 44 us) : ∃ e : Ed, us = encEd e := by
  replace h := shape_str Tryz.underlying44 h
  simp only [List.map_cons, List.map_nil, shapeFields] at h
  obtain ⟨_, _, rfl, h1, _, _, rfl, h2, _, _, rfl, h3, _, _, rfl, h4, _, _, rfl, h5, rfl⟩ := h
  obtain ⟨a, rfl⟩ := shape3 h1
  obtain ⟨b, rfl⟩ := shape3 h2
  obtain ⟨c, rfl⟩ := shape3 h3
  obtain ⟨d, rfl⟩ := shape3 h4
  obtain ⟨e, rfl⟩ := shape3 h5
  exact ⟨⟨a, b, c, d, e⟩, rfl⟩
theorem shape36 {m : Nat} {us : List AV} (h : Shape Tryz.prog (m + 3) 36 us) : ∃ l : List Ed, us = [avE l .no] ∧ l.length ≤ 140737488355328 := by
  replace h := shape_sl Tryz.underlying36 h
  rw [cO44, bO44] at h
  obtain ⟨xs, rfl, hl, hx⟩ := h
  obtain ⟨l, rfl⟩ := map_of_all (enc := encEd) fun x hx' => shape44 (hx x hx')
  refine ⟨l, rfl, ?_⟩
  simp only [List.length_map, reachBytes] at hl
  omega
theorem turns_pure (u : AV) (h : ShapeV Tryz.prog 12 55 u) : PureC Tryz.prog 9 [u] (.bool true) := by
  simp only [ShapeV, Tryz.underlying55] at h
  obtain ⟨us, rfl, h⟩ := h
  replace h := shape_str Tryz.underlying55 h
  simp only [List.map_cons, List.map_nil, shapeFields] at h
  obtain ⟨_, _, rfl, h1, _, _, rfl, h2, _, _, rfl, h3, _, _, rfl, h4, rfl⟩ := h
  obtain ⟨l, rfl, hl⟩ := shape22 h1
  obtain ⟨lv, rfl⟩ := shape3 h2
  obtain ⟨r, rfl, hr⟩ := shape36 h3
  obtain ⟨n, rfl⟩ := shape3 h4
  exact turns_c l hl .no lv r hr .no n
end Go.Proofs
