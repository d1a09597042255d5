import Derived.Test.YtdhmbpipjdapfaaGreatShBa
set_option linter.unusedSimpArgs false
set_option linter.unusedVariables false

/- Shadow logic, part G: the state's invariant over new blocks and stores. -/
namespace Go.Sh
open Go.RowKit

theorem heap_alloc (w : World) (o : Obj) (k : Nat) : (w.alloc o).heap[k]? = if k = w.heap.size then some o else w.heap[k]? := by
  show (w.heap.push o)[k]? = _
  rw [Array.getElem?_push]
theorem size_alloc (w : World) (o : Obj) : (w.alloc o).heap.size = w.heap.size + 1 := by simp
theorem ObjOk.block {M : Mem} {w : World} {b cap : Nat} {o : AObj} (h : ObjOk M w b cap o) : b < w.heap.size := by
  cases o with
  | cells t cs => obtain ⟨arr, h, _⟩ := h; exact (Array.getElem?_eq_some_iff.1 h).1
  | spare t sz n => obtain ⟨arr, h, _⟩ := h; exact (Array.getElem?_eq_some_iff.1 h).1
  | map es clock => obtain ⟨_, arr, h, _⟩ := h; exact (Array.getElem?_eq_some_iff.1 h).1
  | iter m since seen last => exact (Array.getElem?_eq_some_iff.1 h.2.1).1
  | busy => exact (Array.getElem?_eq_some_iff.1 (Option.isSome_iff_exists.1 h.1).choose_spec).1
  | loop n env ps assign body left => obtain ⟨fn, tmps, dd, h, _⟩ := h; exact (Array.getElem?_eq_some_iff.1 h).1
/-- An object elsewhere, over a memory that grew elsewhere. -/
theorem ObjOk.keep {M M' : Mem} {w w' : World} {b cap : Nat} {o : AObj} (h : ObjOk M w b cap o) (hM : M.le M') (hb : w'.heap[b]? = w.heap[b]?) (hF : ∀ a : Addr, a.block = b → M'.F a = M.F a) (hO : M'.O b = M.O b := by rfl) : ObjOk M' w' b cap o := by
  cases o with
  | cells t cs =>
    obtain ⟨arr, h1, h2, h3, h4⟩ := h
    exact ⟨arr, hb.trans h1, h2, fun j => (h3 j).mono hM, fun a ha => (hF a ha).trans (h4 a ha)⟩
  | spare t sz n =>
    obtain ⟨arr, h1, h2, h3, h4, h5⟩ := h
    exact ⟨arr, hb.trans h1, h2, h3, h4, fun a ha ho => (hF a ha).trans (h5 a ha ho)⟩
  | map es clock =>
    obtain ⟨h0, arr, h1, h2, h3⟩ := h
    exact ⟨hO.trans h0, arr, hb.trans h1, h2, fun j e x he hx => ⟨(h3 j e x he hx).1.mono hM, (h3 j e x he hx).2.1.mono hM, (h3 j e x he hx).2.2⟩⟩
  | iter m since seen last =>
    obtain ⟨h0, h1, h2⟩ := h
    refine ⟨hO.trans h0, hb.trans (h1.trans ?_), fun i hi => Nat.lt_of_lt_of_le (h2 i hi) hM.next⟩
    cases m with
    | none => rfl
    | some i => simp only [Option.map_some]; rw [hM.pos i (h2 i rfl)]
  | busy => exact ⟨by rw [hb]; exact h.1, by rw [hO]; exact h.2⟩
  | loop n env ps assign body left =>
    obtain ⟨fn, tmps, dd, h1, h2, h3, h4⟩ := h
    exact ⟨fn, tmps, dd, hb.trans h1, h2, fun d => (h3 d).mono hM, hO.trans h4⟩
theorem Inv.fblock {B : Nat} {w0 w : World} {M : Mem} {st : St} (h : Inv B w0 M st w) {a : Addr} {v : Value} (e : M.F a = some v) : a.block < w.heap.size :=
  World.block_lt_of_cell? w a (h.mem a v e)
theorem Inv.fspot {B : Nat} {w0 w : World} {M : Mem} {st : St} (h : Inv B w0 M st w) {a : Addr} {v : Value} (e : M.F a = some v) : a.spot = none := by
  have := h.mem a v e
  unfold World.cell? at this
  split at this
  · split at this
    · cases this
    · rename_i hs; cases hh : a.spot <;> simp_all
  · cases this

/-- A new block: its first k cells never change; it may be an object's. -/
def Mem.grow (M : Mem) (b k c : Nat) (arr : Array Value) : Mem where
  F := fun a => if a.block = b then (if a.spot = none ∧ a.off < k then arr[a.off]? else none) else M.F a
  pos := fun i => if i = M.next then b else M.pos i
  cap := fun i => if i = M.next then c else M.cap i
  next := M.next + 1
  O := M.O
  ds := M.ds
  ro := M.ro
theorem Inv.oth_ne {B : Nat} {w0 w : World} {M : Mem} {st : St} (h : Inv B w0 M st w) {k b : Nat} {o : Obj} (e : M.O k = some o) {arr : Array Value} {t : TypeId} {f : Nat × Nat} (h0 : w.heap[b]? = some (.cells arr t f)) : k ≠ b := by
  rintro rfl
  obtain ⟨h1, h2⟩ := h.oth k o e
  rw [h0] at h1; cases h1; cases h2.1
theorem Inv.grow_le {B : Nat} {w0 w : World} {M : Mem} {st : St} (h : Inv B w0 M st w) (k c : Nat) (arr : Array Value) : M.le (M.grow w.heap.size k c arr) := by
  refine ⟨⟨fun a v e => ?_, by simp [Mem.grow], fun id hi => ?_, fun id hi => ?_⟩, fun _ _ e => e, rfl, rfl⟩
  · have := h.fblock e
    simp only [Mem.grow]
    rw [if_neg (by omega)]; exact e
  · simp only [Mem.grow]; rw [if_neg (by omega)]
  · simp only [Mem.grow]; rw [if_neg (by omega)]
theorem Inv.alloc {B : Nat} {w0 w : World} {M : Mem} {st st' : St} (h : Inv B w0 M st w) (t : TypeId) (k c : Nat) (arr : Array Value)
    (hst : ∀ id o, st' id = some o → (id ≠ M.next ∧ st id = some o) ∨ (id = M.next ∧ ObjOk (M.grow w.heap.size k c arr) (w.alloc (.cells arr t (0, 0))) w.heap.size c o)) :
    Inv B w0 (M.grow w.heap.size k c arr) st' (w.alloc (.cells arr t (0, 0))) := by
  have hle := h.grow_le k c arr
  refine ⟨h.below.alloc h.size _, by simp; have := h.size; omega, fun a v e => ?_, fun id o e => ?_, fun i j oi oj ei ej hp => ?_, fun id o e => ?_, fun k' o e => ?_, h.rnd⟩
  · simp only [Mem.grow] at e
    split at e
    · rename_i hb
      split at e
      · rename_i hs
        simp only [World.cell?, heap_alloc, hb, if_true, hs.1]
        simpa using e
      · cases e
    · rename_i hb
      have hc := h.mem a v e
      simp only [World.cell?, heap_alloc, hb, if_false]
      exact hc
  · simp only [Mem.grow]
    rcases hst id o e with ⟨_, e⟩ | ⟨e, _⟩
    · have := h.dom id o e; omega
    · omega
  · rcases hst i oi ei with ⟨ni, ei⟩ | ⟨rfl, hi⟩ <;> rcases hst j oj ej with ⟨nj, ej⟩ | ⟨rfl, hj⟩
    · simp only [Mem.grow, ni, nj, if_false] at hp
      exact h.inj i j oi oj ei ej hp
    · simp only [Mem.grow, ni, if_false, if_true] at hp
      have := (h.obj i oi ei).2.block; omega
    · simp only [Mem.grow, nj, if_false, if_true] at hp
      have := (h.obj j oj ej).2.block; omega
    · rfl
  · rcases hst id o e with ⟨ni, e⟩ | ⟨rfl, hi⟩
    · obtain ⟨h1, h2⟩ := h.obj id o e
      have hb := h2.block
      simp only [Mem.grow, ni, if_false]
      refine ⟨h1, h2.keep hle (by rw [heap_alloc, if_neg (by omega)]) fun a ha => ?_⟩
      show (if _ then _ else _) = _; rw [if_neg (by omega)]
    · simp only [Mem.grow, if_true]
      exact ⟨h.size, hi⟩
  · obtain ⟨h1, h2⟩ := h.oth k' o e
    have := (Array.getElem?_eq_some_iff.1 h1).1
    exact ⟨by rw [heap_alloc, if_neg (by omega)]; exact h1, h2⟩

/-- A block is written: an object's. Its first k cells never change from now on. -/
def Mem.gain (M : Mem) (b lo k c : Nat) (arr : Array Value) : Mem where
  F := fun a => if a.block = b ∧ lo ≤ a.off then (if a.spot = none ∧ a.off < k then arr[a.off]? else none) else M.F a
  pos := fun i => if i = M.next then b else M.pos i
  cap := fun i => if i = M.next then c else M.cap i
  next := M.next + 1
  O := M.O
  ds := M.ds
  ro := M.ro
theorem Inv.put {B : Nat} {w0 w : World} {M : Mem} {st st' : St} (h : Inv B w0 M st w) {id : Nat} {o : AObj} (hid : st id = some o) (t : TypeId) (arr0 arr : Array Value)
    (h0 : w.heap[M.pos id]? = some (.cells arr0 t (0, 0))) (lo k c : Nat) (hlo : ∀ a : Addr, a.block = M.pos id → lo ≤ a.off → M.F a = none)
    (hold : ∀ j, j < lo → arr[j]? = arr0[j]?)
    (hst : ∀ i o', st' i = some o' → (i ≠ M.next ∧ i ≠ id ∧ st i = some o') ∨ (i = M.next ∧ ObjOk (M.gain (M.pos id) lo k c arr) (putRow w (M.pos id) arr t) (M.pos id) c o')) :
    M.le (M.gain (M.pos id) lo k c arr) ∧ Inv B w0 (M.gain (M.pos id) lo k c arr) st' (putRow w (M.pos id) arr t) := by
  have hb := (Array.getElem?_eq_some_iff.1 h0).1
  have hle : M.le (M.gain (M.pos id) lo k c arr) := by
    refine ⟨⟨fun a v e => ?_, by simp [Mem.gain], fun i hi => ?_, fun i hi => ?_⟩, fun _ _ e => e, rfl, rfl⟩
    · simp only [Mem.gain]
      split
      · rename_i hc; rw [hlo a hc.1 hc.2] at e; cases e
      · exact e
    · simp only [Mem.gain]; rw [if_neg (by omega)]
    · simp only [Mem.gain]; rw [if_neg (by omega)]
  refine ⟨hle, ?_, by rw [size_putRow]; exact h.size, fun a v e => ?_, fun i o' e => ?_, fun i j oi oj ei ej hp => ?_, fun i o' e => ?_, fun k' o' e => ?_, h.rnd⟩
  · have hB := (h.obj id o hid).1
    refine ⟨h.below.os, h.below.tape, h.below.output, by rw [size_putRow]; exact h.below.size, fun i hi => ?_⟩
    rw [heap_putRow_ne _ _ _ _ _ (by omega)]
    exact h.below.block i hi
  · simp only [Mem.gain] at e
    split at e
    · rename_i hc
      split at e
      · rename_i hs
        simp only [World.cell?, hc.1, heap_putRow _ _ _ _ hb, hs.1]
        simpa using e
      · cases e
    · rename_i hc
      have hm := h.mem a v e
      by_cases hab : a.block = M.pos id
      · have hlt : a.off < lo := by
          by_cases hl : lo ≤ a.off
          · exact absurd ⟨hab, hl⟩ hc
          · omega
        have hs := h.fspot e
        simp only [World.cell?, hab, h0, hs] at hm
        simp only [World.cell?, hab, heap_putRow _ _ _ _ hb, hs]
        rw [hold a.off hlt]; simpa using hm
      · simp only [World.cell?]
        rw [heap_putRow_ne _ _ _ _ _ hab]
        exact hm
  · simp only [Mem.gain]
    rcases hst i o' e with ⟨_, _, e⟩ | ⟨e, _⟩
    · have := h.dom i o' e; omega
    · omega
  · rcases hst i oi ei with ⟨ni, di, ei⟩ | ⟨rfl, hi⟩ <;> rcases hst j oj ej with ⟨nj, dj, ej⟩ | ⟨rfl, hj⟩
    · simp only [Mem.gain, ni, nj, if_false] at hp
      exact h.inj i j oi oj ei ej hp
    · simp only [Mem.gain, ni, if_false, if_true] at hp
      exact absurd (h.inj i id oi o ei hid hp) di
    · simp only [Mem.gain, nj, if_false, if_true] at hp
      exact absurd (h.inj j id oj o ej hid hp.symm) dj
    · rfl
  · rcases hst i o' e with ⟨ni, di, e⟩ | ⟨rfl, hi⟩
    · obtain ⟨h1, h2⟩ := h.obj i o' e
      have hne : M.pos i ≠ M.pos id := fun hp => di (h.inj i id o' o e hid hp)
      simp only [Mem.gain, ni, if_false]
      refine ⟨h1, h2.keep hle (heap_putRow_ne _ _ _ _ _ hne) fun a ha => ?_⟩
      show (if _ then _ else _) = _; rw [if_neg (fun hc => hne (ha.symm.trans hc.1))]
    · simp only [Mem.gain, if_true]
      exact ⟨(h.obj id o hid).1, hi⟩
  · obtain ⟨h1, h2⟩ := h.oth k' o' e
    exact ⟨by rw [heap_putRow_ne _ _ _ _ _ (h.oth_ne e h0)]; exact h1, h2⟩
/-- A store into an object's cells. -/
theorem Inv.store {B : Nat} {w0 w : World} {M : Mem} {st : St} (h : Inv B w0 M st w) {id : Nat} {t : TypeId} {cs cs' : List AV} (hid : st id = some (.cells t cs)) (arr arr' : Array Value)
    (h0 : w.heap[M.pos id]? = some (.cells arr t (0, 0))) (hr : RepL M cs' arr') : Inv B w0 M (st.upd id (.cells t cs')) (putRow w (M.pos id) arr' t) := by
  have hb := (Array.getElem?_eq_some_iff.1 h0).1
  obtain ⟨hB, hO⟩ := h.obj id _ hid
  obtain ⟨arr1, g1, g2, g3, g4⟩ := hO
  refine ⟨⟨h.below.os, h.below.tape, h.below.output, by rw [size_putRow]; exact h.below.size, fun i hi => ?_⟩, by rw [size_putRow]; exact h.size, fun a v e => ?_, fun i o' e => ?_, fun i j oi oj ei ej hp => ?_, fun i o' e => ?_, fun k' o' e => ⟨by rw [heap_putRow_ne _ _ _ _ _ (h.oth_ne e h0)]; exact (h.oth k' o' e).1, (h.oth k' o' e).2⟩, h.rnd⟩
  · rw [heap_putRow_ne _ _ _ _ _ (by omega)]
    exact h.below.block i hi
  · have hne : a.block ≠ M.pos id := fun hc => by rw [g4 a hc] at e; cases e
    simp only [World.cell?]
    rw [heap_putRow_ne _ _ _ _ _ hne]
    exact h.mem a v e
  · simp only [St.upd] at e
    split at e
    · rename_i hi; subst hi; exact h.dom _ _ hid
    · exact h.dom _ _ e
  · simp only [St.upd] at ei ej
    have key : ∀ i o', (if i = id then some (AObj.cells t cs') else st i) = some o' → ∃ o'', st i = some o'' := by
      intro i o' e
      split at e
      · rename_i hi; subst hi; exact ⟨_, hid⟩
      · exact ⟨_, e⟩
    obtain ⟨_, ei⟩ := key i oi ei
    obtain ⟨_, ej⟩ := key j oj ej
    exact h.inj i j _ _ ei ej hp
  · simp only [St.upd] at e
    split at e
    · rename_i hi
      subst hi
      injection e with e
      subst e
      exact ⟨hB, arr', heap_putRow _ _ _ _ hb, hr.1, hr.2, g4⟩
    · rename_i hi
      obtain ⟨h1, h2⟩ := h.obj i o' e
      have hne : M.pos i ≠ M.pos id := fun hp => hi (h.inj i id o' _ e hid hp)
      exact ⟨h1, h2.keep (.refl M) (heap_putRow_ne _ _ _ _ _ hne) fun _ _ => rfl⟩
end Go.Sh

/- Shadow logic, part H: every operation, sound. -/
namespace Go.Sh
open Go.RowKit
section
variable {P : Program} {B n : Nat} {w0 w : World} {M : Mem} {st : St} {K : AV → St → Prop} {env : Env} {a : Act}

theorem out_of_val (hI : Inv B w0 M st w) {s : Sem Value} (h : ∃ r z, s.run P w = .ok r w ∧ RepV M z r ∧ K z st) : Out P B w0 M st w K ((do pure (.value (← s)) : Sem Next).run P w) := by
  obtain ⟨r, z, h1, h2, h3⟩ := h
  exact out_val hI h1 h2 h3

theorem addr_add (b off j : Nat) : (⟨b, off, none⟩ : Addr).add j = ⟨b, off + j, none⟩ := Addr.add_lit b off j
theorem getD_take (l : List AV) (n j : Nat) : (l.take n).getD j .undef = if j < n then l.getD j .undef else .undef := by
  rw [List.getD_eq_getElem?_getD, List.getElem?_take]
  split <;> simp [List.getD_eq_getElem?_getD]
theorem getD_drop (l : List AV) (n j : Nat) : (l.drop n).getD j .undef = l.getD (n + j) .undef := by
  rw [List.getD_eq_getElem?_getD, List.getElem?_drop, List.getD_eq_getElem?_getD]
theorem rep_agg_range {cs : List AV} {g : Nat → Value} (n : Nat) (hn : n ≤ cs.length) (hg : ∀ j, RepV M (cs.getD j .undef) (g j)) : RepV M (.agg (cs.take n)) (.agg ((List.range n).map g).toArray) := by
  refine .agg _ _ (by simp; omega) fun j => ?_
  rw [getD_take, Array.getD_eq_getD_getElem?]
  by_cases h : j < n
  · rw [if_pos h]; simpa [h] using hg j
  · rw [if_neg h]; exact .undef _

theorem sound_load (hI : Inv B w0 M st w) {t : TypeId} {x : AV} {u : Value} (hx : RepV M x u) {i : TI} (ht : tiOf P t = some i)
    (h : resK P (match (generalizing := false) x with
      | .eptr cs => if i.k.agg then (if i.size ≤ cs.length then .val (.agg (cs.take i.size)) else .stuck) else
          (if i.size = 1 then match (generalizing := false) cs with | c :: _ => .val c | [] => .stuck else .stuck)
      | .box id off => if i.k.agg = false → i.size = 1 then .load id off i.size i.k.agg else .stuck
      | _ => .stuck) st K) : ∃ r z, (Instr.loadAt t u).run P w = .ok r w ∧ RepV M z r ∧ K z st := by
  cases hx
  case box id off hid =>
    by_cases hc : i.k.agg = false → i.size = 1
    · simp only [if_pos hc] at h
      obtain ⟨tt, cs, hs, hl, hK⟩ := resK_load h
      obtain ⟨_, arr, h1, h2, h3, h4⟩ := hI.obj id _ hs
      have hcell : ∀ j, j < i.size → w.cell? ((⟨M.pos id, off, none⟩ : Addr).add j) = some (arr.getD (off + j) Go.undef) := by
        intro j hj
        rw [addr_add, cell_of_row w _ _ _ _ _ h1]
        have : off + j < arr.size := by omega
        simp [this]
      refine ⟨_, _, run_loadVar' ht _ _ (fun h => by rw [hc h]; omega) hcell, ?_, hK⟩
      cases hag : i.k.agg with
      | true =>
        simp only [if_true]
        refine rep_agg_range i.size (by simp; omega) fun j => ?_
        rw [getD_drop]; exact h3 _
      | false => simpa using h3 off
    · simp only [if_neg hc] at h; exact h.elim
  case eptr cs addr g hF hg =>
    cases hag : i.k.agg with
    | true =>
      simp only [hag, if_true] at h
      by_cases hl : i.size ≤ cs.length
      · rw [if_pos hl] at h
        refine ⟨_, _, run_loadVar' ht _ g (fun h => by simp [hag] at h) (fun j hj => hI.mem _ _ (hF j (by omega))), ?_, h⟩
        simp only [hag, if_true]
        exact rep_agg_range i.size hl hg
      · rw [if_neg hl] at h; exact h.elim
    | false =>
      simp only [hag, Bool.false_eq_true, if_false] at h
      by_cases hl : i.size = 1
      · rw [if_pos hl] at h
        cases cs with
        | nil => exact h.elim
        | cons c cs =>
          refine ⟨_, _, run_loadVar' ht _ g (fun _ => by omega) (fun j hj => hI.mem _ _ (hF j (by simp; omega))), ?_, h⟩
          simpa [hag] using hg 0
      · rw [if_neg hl] at h; exact h.elim
  all_goals exact h.elim

/-! ### store, new blocks -/
theorem mem_cells_one {M : Mem} {cs : List AV} {vs : Array Value} (h : RepL M cs vs) (ho : cs.all AV.one = true) : ∀ v ∈ vs.toList, v.oneCell' = true := by
  intro v hv
  obtain ⟨j, hj, rfl⟩ := List.getElem_of_mem hv
  have hj' : j < vs.size := by simpa using hj
  have hjc : j < cs.length := by rw [← h.1]; exact hj'
  have := h.2 j
  rw [List.getD_eq_getElem?_getD, List.getElem?_eq_getElem hjc, Option.getD_some, Array.getD_eq_getD_getElem?, Array.getElem?_eq_getElem hj', Option.getD_some] at this
  rw [Array.getElem_toList]
  exact this.one (List.all_eq_true.1 ho _ (List.getElem_mem hjc))
theorem sound_store (hI : Inv B w0 M st w) {t : TypeId} {x v : AV} {u y : Value} (hx : RepV M x u) (hv : RepV M v y) {i : TI} (ht : tiOf P t = some i)
    (h : resK P (match (generalizing := false) x, v.cells? with
      | .box id off, some cs => if cs.length = i.size ∧ cs.all AV.one then .store id off cs else .stuck
      | _, _ => .stuck) st K) : ∃ w' st', (Instr.storeAt t u y).run P w = .ok () w' ∧ Inv B w0 M st' w' ∧ K .undef st' := by
  cases hx
  case box id off hid =>
    cases hc : v.cells? with
    | none => simp only [hc] at h; exact h.elim
    | some cs =>
      simp only [hc] at h
      by_cases hh : cs.length = i.size ∧ cs.all AV.one
      · rw [if_pos hh] at h
        obtain ⟨tt, cs0, hs, hl, hK⟩ := resK_store h
        obtain ⟨_, arr, h1, h2, h3, h4⟩ := hI.obj id _ hs
        have hr := hv.cells hc
        have hsz : ¬ (y.cells.size ≠ i.size) := by rw [hr.1]; simp [hh.1]
        have hrun := run_storeCells (P := P) tt (M.pos id) off y.cells.toList 0 arr w h1 (mem_cells_one hr hh.2) (by simp; have := hr.1; omega)
        refine ⟨_, _, ?_, hI.store (cs' := spliceL cs0 off cs) hs arr (splice arr off y.cells.toList) h1 (RepL.splice cs y.cells.toList ⟨h2, h3⟩ off hl (by simpa using hr)), hK⟩
        simp only [Instr.storeAt, Instr.sureAddr, pure_bind, storeVar, Sem.run_bind, run_sizeOf' ht, Result.andThen_ok]
        rw [if_neg hsz]
        simpa using hrun
      · rw [if_neg hh] at h; exact h.elim
  all_goals exact h.elim

theorem run_newRow (t : TypeId) (arr : Array Value) : (newRow t arr).run P w = .ok ⟨w.heap.size, 0, none⟩ (w.alloc (.cells arr t (0, 0))) := by
  simp [newRow]
theorem inv_new (hI : Inv B w0 M st w) (t : TypeId) {cs : List AV} {arr : Array Value} (hr : RepL M cs arr) :
    ∃ M', M.le M' ∧ Inv B w0 M' (st.upd M.next (.cells t cs)) (w.alloc (.cells arr t (0, 0))) ∧ RepV M' (.box M.next 0) (.pointer (some ⟨w.heap.size, 0, none⟩)) := by
  have hle := hI.grow_le 0 0 arr
  refine ⟨M.grow w.heap.size 0 0 arr, hle, hI.alloc t 0 0 arr fun id o e => ?_, ?_⟩
  · simp only [St.upd] at e
    split at e
    · rename_i hid
      injection e with e; subst e
      refine .inr ⟨hid, arr, by rw [heap_alloc, if_pos rfl], hr.1, (hr.mono hle).2, fun a ha => ?_⟩
      simp [Mem.grow, ha]
    · rename_i hid; exact .inl ⟨hid, e⟩
  · have := RepV.box (M := M.grow w.heap.size 0 0 arr) M.next 0 (by simp [Mem.grow])
    simpa [Mem.grow] using this
theorem sound_new (hI : Inv B w0 M st w) {t : TypeId} {cs : List AV} {arr : Array Value} (hr : RepL M cs arr) (h : resK P (.new t cs) st K) :
    Out P B w0 M st w K ((do pure (.value (.pointer (some (← newRow t arr)))) : Sem Next).run P w) := by
  obtain ⟨M', h1, h2, h3⟩ := inv_new hI t hr
  simp only [Sem.run_bind, run_newRow, Result.andThen_ok, Sem.run_pure]
  refine ⟨M', _, _, h1, h2, h3, h M.next ?_⟩
  cases hs : st M.next with
  | none => rfl
  | some o => have := hI.dom _ _ hs; omega
end
end Go.Sh

/- Shadow logic, part I: literals of structs and rows, appends. -/
namespace Go.Sh
open Go.RowKit
section
variable {P : Program} {B n : Nat} {w0 w : World} {M : Mem} {st : St} {K : AV → St → Prop} {env : Env} {a : Act}

theorem rep_zero {t : TypeId} {i : TI} (ht : tiOf P t = some i) (M : Mem) : ∃ z, (zeroValue t).run P w = .ok z w ∧ RepL M i.zero z.cells := by
  obtain ⟨z, h1, h2⟩ := run_zeroValue' (w := w) ht
  exact ⟨z, h1, by rw [← h2]; exact RepL.ofZero M z.cells⟩

theorem run_mapM_places (fs : Array Field) (hall : ∀ f ∈ fs.toList, (tiOf P f.type).isSome) :
    (fs.mapM (m := Sem) fun f => do pure (f.offset, ← sizeOf f.type)).run P w = .ok (fs.map fun f => (f.offset, ((tiOf P f.type).map (·.size)).getD 0)) w := by
  rw [Array.mapM_eq_mapM_toList]
  have key : ∀ l : List Field, (∀ f ∈ l, (tiOf P f.type).isSome) → (l.mapM (m := Sem) fun f => do pure (f.offset, ← sizeOf f.type)).run P w = .ok (l.map fun f => (f.offset, ((tiOf P f.type).map (·.size)).getD 0)) w := by
    intro l
    induction l with
    | nil => intro _; simp
    | cons f l ih =>
      intro h
      obtain ⟨i, hi⟩ := Option.isSome_iff_exists.1 (h f (by simp))
      rw [List.mapM_cons]
      simp only [Sem.run_bind, run_sizeOf' hi, Result.andThen_ok, Sem.run_pure, ih (fun g hg => h g (by simp [hg]))]
      simp [hi]
  simp only [Sem.run_map, key fs.toList hall, Result.andThen_ok]
  congr 1
  apply Array.ext'
  simp

theorem sound_build (hE : RepE M n env a) {t : TypeId} {parts : Array (Nat × Operand)} {i : TI} (ht : tiOf P t = some i) {fs : List (Nat × TypeId)} (hk : i.k = .struct fs) (hall : hasAll P fs = true)
    {cs : List AV} (hf : fillAV (placeS P fs) i.zero (parts.toList.map fun (j, x) => (j, env.op x)) = some cs) :
    ∃ r, (Instr.build t (parts.map fun (j, x) => (j, a.eval x))).run P w = .ok r w ∧ RepV M (.agg cs) r := by
  obtain ⟨d, inf, z0, h1, h2, h3, h4, h5, h6, h7⟩ := tiOf_some ht
  obtain ⟨z, hz, hzr⟩ := rep_zero (P := P) (w := w) ht M
  rw [hk] at h4
  cases d <;> simp [tkOf] at h4
  rename_i fields
  have hallf : ∀ f ∈ fields.toList, (tiOf P f.type).isSome := by
    intro f hf'
    have := List.all_eq_true.1 hall (f.offset, f.type) (by rw [← h4]; exact List.mem_map.2 ⟨f, hf', rfl⟩)
    exact this
  have hpl := run_mapM_places (P := P) (w := w) fields hallf
  have hplace : ∀ j, (fields.map fun f => (f.offset, ((tiOf P f.type).map (·.size)).getD 0))[j]? = placeS P fs j := by
    intro j
    unfold placeS
    rw [← h4]
    simp only [Array.getElem?_map, List.getElem?_map, Array.getElem?_toList]
    cases hfj : fields[j]? with
    | none => simp
    | some f =>
      obtain ⟨ti, hti⟩ := Option.isSome_iff_exists.1 (hallf f (by obtain ⟨hj, he⟩ := Array.getElem?_eq_some_iff.1 hfj; rw [← he]; exact Array.mem_toList_iff.2 (Array.getElem_mem hj)))
      simp [hti]
  obtain ⟨arr', hfill, hr⟩ := fill_rep (placeS P fs) (parts.toList.map fun (j, x) => (j, env.op x)) (parts.map fun (j, x) => (j, a.eval x)).toList i.zero z.cells cs hzr (by simp [Function.comp_def])
    (fun j p q hp hq => by
      simp only [List.getElem?_map, Array.toList_map, Array.getElem?_toList] at hp hq
      cases hpj : parts[j]? with
      | none => simp [hpj] at hp
      | some pp => simp [hpj] at hp hq; subst hp hq; exact hE.op pp.2) hf
  refine ⟨.agg arr', ?_, .agg _ _ hr.1 hr.2⟩
  simp only [Instr.build, Sem.run_bind, hz, Result.andThen_ok, run_underlying h1, hpl]
  have : (fun x => (fields.map fun f => (f.offset, ((tiOf P f.type).map (·.size)).getD 0))[x]?) = placeS P fs := funext hplace
  rw [this, hfill]
  rfl

theorem getD_flatten_chunks (sz : Nat) (flat : List AV) (m : Nat) (i j : Nat) (hj : j < sz) (hi : i < m) :
    ((chunks sz flat m).getD i []).getD j .undef = flat.getD (i * sz + j) .undef := by
  unfold chunks
  rw [List.getD_eq_getElem?_getD (l := List.map _ _), List.getElem?_map, List.getElem?_range hi]
  simp only [Option.map_some, Option.getD_some]
  rw [getD_take, if_pos hj, getD_drop]
theorem zeros_cells (z : Array Value) (len : Nat) (hz : 0 < z.size) (zl : List AV) (hr : RepL M zl z) :
    RepL M (List.replicate len zl).flatten ((Array.range (len * z.size)).map (z[· % z.size]!)) := by
  have hl : (List.replicate len zl).flatten.length = len * z.size := by
    rw [List.length_flatten, List.map_replicate, List.sum_replicate_nat, hr.1]
  refine ⟨by simp [hl], fun j => ?_⟩
  by_cases hj : j < len * z.size
  · have e1 : (List.replicate len zl).flatten.getD j .undef = zl.getD (j % z.size) .undef := by
      rw [List.getD_eq_getElem?_getD, List.getD_eq_getElem?_getD]
      congr 1
      have : ∀ (len j : Nat), j < len * z.size → (List.replicate len zl).flatten[j]? = zl[j % z.size]? := by
        intro len
        induction len with
        | zero => intro j hj; simp at hj
        | succ len ih =>
          intro j hj
          rw [List.replicate_succ, List.flatten_cons]
          by_cases hlt : j < zl.length
          · rw [List.getElem?_append_left hlt, Nat.mod_eq_of_lt (by rw [hr.1]; exact hlt)]
          · rw [List.getElem?_append_right (by omega)]
            have hs := hr.1
            rw [ih (j - zl.length) (by rw [Nat.succ_mul] at hj; omega), ← hs, ← Nat.mod_eq_sub_mod (by omega)]
      exact this len j hj
    rw [e1]
    have hm := Nat.mod_lt j hz
    have := hr.2 (j % z.size)
    rw [Array.getD_eq_getD_getElem?]
    rw [Array.getElem?_map, Array.getElem?_range, if_pos hj]
    rw [Array.getD_eq_getD_getElem?] at this
    simpa [hm] using this
  · have h1 : (List.replicate len zl).flatten[j]? = none := by rw [List.getElem?_eq_none]; omega
    rw [List.getD_eq_getElem?_getD, h1]
    exact .undef _
/-- A row that never changes, in a new block. -/
theorem inv_lit (hI : Inv B w0 M st w) (t : TypeId) {flat : List AV} {arr : Array Value} (hr : RepL M flat arr) (sz m : Nat) (hsz : 0 < sz) (hl : flat.length = m * sz) (hm : m ≤ maxLen) :
    ∃ M', M.le M' ∧ Inv B w0 M' st (w.alloc (.cells arr t (0, 0))) ∧ RepV M' (.list sz (chunks sz flat m) .clip) (.slice (some ⟨w.heap.size, 0, none⟩) m m) := by
  have hle := hI.grow_le arr.size 0 arr
  refine ⟨M.grow w.heap.size arr.size 0 arr, hle, hI.alloc t arr.size 0 arr fun id o e => ?_, ?_⟩
  · have := hI.dom id o e
    exact .inl ⟨by omega, e⟩
  · have hlen : (chunks sz flat m).length = m := by simp [chunks]
    have hbound : ∀ i j, i < m → j < sz → i * sz + j < arr.size := by
      intro i j hi hj
      rw [hr.1, hl]
      have : (i + 1) * sz ≤ m * sz := Nat.mul_le_mul_right _ hi
      rw [Nat.succ_mul] at this
      omega
    have := RepV.list (M := M.grow w.heap.size arr.size 0 arr) sz (chunks sz flat m) .clip ⟨w.heap.size, 0, none⟩ m (fun i j => arr.getD (i * sz + j) Go.undef)
      (fun i j hi hj => by
        rw [hlen] at hi
        have hb := hbound i j hi hj
        rw [addr_add]
        simp only [Mem.grow, Nat.zero_add, true_and, if_true]
        rw [if_pos hb]
        simp [hb])
      (fun i j => by
        by_cases hi : i < m
        · by_cases hj : j < sz
          · rw [getD_flatten_chunks sz flat m i j hj hi]
            exact (hr.2 _).mono hle
          · have : ((chunks sz flat m).getD i []).getD j .undef = .undef := by
              unfold chunks
              rw [List.getD_eq_getElem?_getD (l := List.map _ _), List.getElem?_map, List.getElem?_range hi]
              simp only [Option.map_some, Option.getD_some]
              rw [getD_take, if_neg hj]
            rw [this]; exact .undef _
        · have : (chunks sz flat m).getD i [] = [] := by
            rw [List.getD_eq_getElem?_getD, List.getElem?_eq_none (by omega)]; rfl
          rw [this]; exact .undef _)
      (fun i hi => by
        rw [hlen] at hi
        unfold chunks
        rw [List.getD_eq_getElem?_getD (l := List.map _ _), List.getElem?_map, List.getElem?_range hi]
        simp only [Option.map_some, Option.getD_some, List.length_take, List.length_drop, hl]
        have : (i + 1) * sz ≤ m * sz := Nat.mul_le_mul_right _ hi
        rw [Nat.succ_mul] at this
        omega)
      (by omega) hm (by simp [OwnOk, hlen])
    rw [hlen] at this
    exact this
end
end Go.Sh

/- Shadow logic, part J: append. -/
namespace Go.Sh
open Go.RowKit
section
variable {P : Program} {B n : Nat} {w0 w : World} {M : Mem} {st : St} {K : AV → St → Prop} {env : Env} {a : Act}

theorem rep_row {sz : Nat} {ys : List (List AV)} {o : Own} {b cap : Nat} (arr : Array Value) (hF : ∀ q, q < ys.length * sz → M.F ⟨b, q, none⟩ = some (arr.getD q Go.undef))
    (hr : ∀ i j, i < ys.length → j < sz → RepV M ((ys.getD i []).getD j .undef) (arr.getD (i * sz + j) Go.undef)) (hl : ∀ i, i < ys.length → (ys.getD i []).length = sz)
    (hc : ys.length ≤ cap) (hm : cap ≤ maxLen) (ho : OwnOk M ⟨b, 0, none⟩ ys.length cap o) : RepV M (.list sz ys o) (.slice (some ⟨b, 0, none⟩) ys.length cap) := by
  refine .list sz ys o _ cap (fun i j => arr.getD (i * sz + j) Go.undef) (fun i j hi hj => ?_) (fun i j => ?_) hl hc hm ho
  · rw [addr_add, Nat.zero_add]
    refine hF _ ?_
    have : (i + 1) * sz ≤ ys.length * sz := Nat.mul_le_mul_right _ hi
    rw [Nat.succ_mul] at this
    omega
  · by_cases hi : i < ys.length
    · by_cases hj : j < sz
      · exact hr i j hi hj
      · have : (ys.getD i []).getD j .undef = .undef := by
          rw [List.getD_eq_getElem?_getD, List.getElem?_eq_none (by rw [hl i hi]; omega)]; rfl
        rw [this]; exact .undef _
    · have : ys.getD i [] = [] := by rw [List.getD_eq_getElem?_getD, List.getElem?_eq_none (by omega)]; rfl
      rw [this]; exact .undef _

/-- What a row's cells are. -/
theorem rows_read (hI : Inv B w0 M st w) {sz : Nat} {xs : List (List AV)} {o : Own} {v : Value} (h : RepV M (.list sz xs o) v) (size : Nat) (hs : xs = [] ∨ sz = size) :
    ∃ base cap, v = .slice base xs.length cap ∧ ∃ arr : Array Value, arr.size = xs.length * size ∧ (∀ w', w'.heap = w.heap → (Builtin.firstCells size xs.length v).run P w' = .ok arr w') ∧
      (∀ i j, i < xs.length → j < size → RepV M ((xs.getD i []).getD j .undef) (arr.getD (i * size + j) Go.undef)) ∧ (∀ i, i < xs.length → (xs.getD i []).length = size) := by
  match h with
  | .nils _ _ ho =>
    exact ⟨none, 0, rfl, #[], by simp, fun w' _ => by simp [Builtin.firstCells], fun i j hi => by simp at hi, fun i hi => by simp at hi⟩
  | .list _ _ _ ad cap g hF hg hl hc hm ho =>
    refine ⟨_, _, rfl, ((List.range (xs.length * size)).map fun q => g (q / size) (q % size)).toArray, by simp, fun w' hw => ?_, fun i j hi hj => ?_, fun i hi => ?_⟩
    · have : (Builtin.firstCells size xs.length (.slice (some ad) xs.length cap)).run P w' = (loadCells ad (xs.length * size)).run P w' := rfl
      rw [this]
      refine run_loadCells' ad _ _ fun q hq => ?_
      have hxs : xs ≠ [] := fun e => by subst e; simp at hq
      have he : sz = size := hs.resolve_left hxs
      subst he
      have hsz : 0 < sz := by
        rcases Nat.eq_zero_or_pos sz with h0 | h0
        · subst h0; simp at hq
        · exact h0
      have h1 : q / sz < xs.length := (Nat.div_lt_iff_lt_mul hsz).2 hq
      have h2 : q % sz < sz := Nat.mod_lt _ hsz
      have := hF (q / sz) (q % sz) h1 h2
      rw [Nat.div_add_mod'] at this
      have hc := hI.mem _ _ this
      simpa [World.cell?, hw] using hc
    · have hxs : xs ≠ [] := fun e => by subst e; simp at hi
      have he : sz = size := hs.resolve_left hxs
      subst he
      have hlt : i * sz + j < xs.length * sz := by
        have : (i + 1) * sz ≤ xs.length * sz := Nat.mul_le_mul_right _ hi
        rw [Nat.succ_mul] at this
        omega
      have e1 : (i * sz + j) / sz = i := by
        rw [Nat.mul_comm, Nat.mul_add_div (by omega), Nat.div_eq_of_lt hj, Nat.add_zero]
      have e2 : (i * sz + j) % sz = j := by
        rw [Nat.mul_comm, Nat.mul_add_mod, Nat.mod_eq_of_lt hj]
      rw [Array.getD_eq_getD_getElem?]
      simp only [List.getElem?_toArray, List.getElem?_map, List.getElem?_range hlt, Option.map_some, Option.getD_some, e1, e2]
      exact hg i j
    · have hxs : xs ≠ [] := fun e => by subst e; simp at hi
      rw [← hs.resolve_left hxs]
      exact hl i hi

theorem Inv.drew (hI : Inv B w0 M st w) : Inv B w0 M st w.drew :=
  ⟨hI.below.drew, hI.size, hI.mem, hI.dom, hI.inj, fun id o e => ⟨(hI.obj id o e).1, (hI.obj id o e).2.keep (.refl M) rfl fun _ _ => rfl⟩, hI.oth, hI.rnd⟩

theorem owns_none (hI : Inv B w0 M st w) {st0 : St} {e sz n : Nat} {o : Own} (h : Owns st0 e sz n o st) : st0 M.next = none := by
  cases o with
  | no => exact h.elim
  | clip =>
    simp only [Owns] at h
    subst h
    cases hs : st M.next with
    | none => rfl
    | some o => have := hI.dom _ _ hs; omega
  | op id =>
    obtain ⟨h1, h2⟩ := h
    subst h2
    cases hs : st0 M.next with
    | none => rfl
    | some o =>
      have hne : M.next ≠ id := fun e => by rw [e, h1] at hs; cases hs
      have := hI.dom M.next o (by simp [St.upd, hne, hs])
      omega
/-- What of the state is beside the owned row. -/
theorem owns_sub {st0 : St} {e sz n : Nat} {o : Own} (h : Owns st0 e sz n o st) (i : Nat) (x : AObj) (hi : st0 i = some x) : st i = some x ∧ (∀ id, o = .op id → i ≠ id) := by
  cases o with
  | no => exact h.elim
  | clip => simp only [Owns] at h; subst h; exact ⟨hi, fun _ e => by cases e⟩
  | op id =>
    obtain ⟨h1, h2⟩ := h
    subst h2
    have hne : i ≠ id := fun e => by rw [e, h1] at hi; cases hi
    exact ⟨by simp [St.upd, hne, hi], fun id' e => by injection e with e; rw [← e]; exact hne⟩

theorem run_append_shape {t t' ty e : TypeId} {ie : TI} (hu : ∃ i, tiOf P t = some i ∧ i.k = .slice e) (hu' : ∃ i e', tiOf P t' = some i ∧ i.k = .slice e') (he : tiOf P e = some ie)
    (base : Option Addr) (l c : Nat) (y : Value) (m : Nat) (by_ : Option Addr) (cy : Nat) (hy : y = .slice by_ m cy) (new : Array Value) :
    (l + m ≤ c → (∀ w', w'.heap = w.heap → (Builtin.firstCells ie.size m y).run P w' = .ok new w') →
      (Builtin.append_ #[t, t'] ty #[.slice base l c, y]).run P w = ((match base with | some a => storeCells (a.add (l * ie.size)) new.toList | none => pure () : Sem Unit).run P w).andThen fun _ w' => .ok (.slice base (l + m) c) w') ∧
    (¬ l + m ≤ c → (∀ w', w'.heap = w.heap → (Builtin.firstCells ie.size m y).run P w' = .ok new w') → ∀ old, (∀ w', w'.heap = w.heap → (Builtin.firstCells ie.size l (.slice base l c)).run P w' = .ok old w') →
      l + m ≤ 9223372036854775807 → (l + m) * ie.bytes ≤ 140737488355328 → ∃ cap rest, l + m ≤ cap ∧ cap ≤ maxLen ∧ rest.size = (cap - (l + m)) * ie.zero.length ∧
      (Builtin.append_ #[t, t'] ty #[.slice base l c, y]).run P w = .ok (.slice (some ⟨w.heap.size, 0, none⟩) (l + m) cap) (w.drew.alloc (.cells (old ++ new ++ rest) e (0, 0)))) := by
  obtain ⟨i, hi, hk⟩ := hu
  obtain ⟨i', e', hi', hk'⟩ := hu'
  obtain ⟨d, inf, z, h1, h2, h3, h4, h5, h6, h7⟩ := tiOf_some hi
  obtain ⟨d', inf', z', h1', h2', h3', h4', h5', h6', h7'⟩ := tiOf_some hi'
  obtain ⟨de, infe, ze, g1, g2, g3, g4, g5, g6, g7⟩ := tiOf_some he
  rw [hk] at h4
  rw [hk'] at h4'
  cases d <;> simp [tkOf] at h4
  cases d' <;> simp [tkOf] at h4'
  rw [h4] at h1
  rw [h4'] at h1'
  subst hy
  have hsz : ∀ w, (sizeOf e).run P w = .ok ie.size w := fun w => run_sizeOf' he
  constructor
  · intro hle hn
    have hf := hn w rfl
    cases base <;> simp [Builtin.append_, run_underlying h1, run_underlying h1', hsz, hle, hf, Builtin.lenOf]
  · intro hle hn old ho h63 hb
    have hf := hn w.drew rfl
    have hfo := ho w.drew rfl
    have h48 := growslice_fits (need := l + m) (old := c) (bytes := ie.bytes) (by omega) hb
    refine ⟨grownCap w (l + m) c e, Builtin.zeroCells ze.cells (grownCap w (l + m) c e - (l + m)), ?_, ?_, ?_, ?_⟩
    · unfold grownCap Question.cut; simp only; omega
    · unfold grownCap Question.cut maxLen; simp only
      have := Nat.mod_lt (w.tape w.drawn (.appendCap (l + m) c e)) (show 0 < 2 ^ 63 - (l + m) by omega)
      omega
    · simp [Builtin.zeroCells, ← g7]
    · have h63' : ¬ (9223372036854775807 < ((l : Int) + (m : Int))) := by omega
      have h48' : ¬ (281474976710656 < Builtin.nextslicecap (l + m) c * infe.bytes) := by rw [g6]; omega
      have hst : (sizeOf e).run P w = .ok ie.size w := hsz w
      simp [Builtin.append_, run_underlying h1, run_underlying h1', hst, typeInfo, zeroValue, g2, g3, Builtin.lenOf, hle, h63', h48', Question.forced, hf, hfo, newRow, grownCap]

theorem getD_append_left' (xs ys : List (List AV)) (i : Nat) (h : i < xs.length) : (xs ++ ys).getD i [] = xs.getD i [] := by
  rw [List.getD_eq_getElem?_getD, List.getElem?_append_left h, List.getD_eq_getElem?_getD]
theorem getD_append_right' (xs ys : List (List AV)) (i : Nat) (h : ¬ i < xs.length) : (xs ++ ys).getD i [] = ys.getD (i - xs.length) [] := by
  rw [List.getD_eq_getElem?_getD, List.getElem?_append_right (by omega), List.getD_eq_getElem?_getD]
theorem agetD_append (p q : Array Value) (k : Nat) : (p ++ q).getD k Go.undef = if k < p.size then p.getD k Go.undef else q.getD (k - p.size) Go.undef := by
  rw [Array.getD_eq_getD_getElem?, Array.getElem?_append]
  by_cases h : k < p.size
  · rw [if_pos h, if_pos h, Array.getD_eq_getD_getElem?]
  · rw [if_neg h, if_neg h, Array.getD_eq_getD_getElem?]

/-- The cells of two rows, one behind the other. -/
theorem rep_two {M : Mem} {size : Nat} {xs ys : List (List AV)} {p q : Array Value} (hp : p.size = xs.length * size) (hq : q.size = ys.length * size)
    (h1 : ∀ i j, i < xs.length → j < size → RepV M ((xs.getD i []).getD j .undef) (p.getD (i * size + j) Go.undef))
    (h2 : ∀ i j, i < ys.length → j < size → RepV M ((ys.getD i []).getD j .undef) (q.getD (i * size + j) Go.undef)) (r : Array Value) (i j : Nat) (hi : i < (xs ++ ys).length) (hj : j < size) :
    RepV M (((xs ++ ys).getD i []).getD j .undef) ((p ++ q ++ r).getD (i * size + j) Go.undef) := by
  have hb : i * size + j < (p ++ q).size := by
    rw [Array.size_append, hp, hq, ← Nat.add_mul, ← List.length_append]
    have : (i + 1) * size ≤ (xs ++ ys).length * size := Nat.mul_le_mul_right _ hi
    rw [Nat.succ_mul] at this
    omega
  rw [agetD_append, if_pos hb, agetD_append]
  by_cases hx : i < xs.length
  · have : i * size + j < p.size := by
      rw [hp]
      have : (i + 1) * size ≤ xs.length * size := Nat.mul_le_mul_right _ hx
      rw [Nat.succ_mul] at this
      omega
    rw [if_pos this, getD_append_left' _ _ _ hx]
    exact h1 i j hx hj
  · have : ¬ i * size + j < p.size := by
      rw [hp]
      have : xs.length * size ≤ i * size := Nat.mul_le_mul_right _ (by omega)
      omega
    rw [if_neg this, getD_append_right' _ _ _ hx]
    have e : i * size + j - p.size = (i - xs.length) * size + j := by
      rw [hp, Nat.sub_mul]
      have : xs.length * size ≤ i * size := Nat.mul_le_mul_right _ (by omega)
      omega
    rw [e]
    exact h2 _ j (by simp at hi; omega) hj

theorem rep_open {M : Mem} {sz : Nat} {xs : List (List AV)} {o : Own} {base : Option Addr} {n cap : Nat} (h : RepV M (.list sz xs o) (.slice base n cap)) :
    (base = none ∧ xs = [] ∧ cap = 0 ∧ ∀ id, o ≠ .op id) ∨ ∃ ad, ∃ g : Nat → Nat → Value, base = some ad ∧ (∀ i j, i < xs.length → j < sz → M.F (ad.add (i * sz + j)) = some (g i j)) ∧
      (∀ i j, RepV M ((xs.getD i []).getD j .undef) (g i j)) ∧ xs.length ≤ cap ∧ cap ≤ maxLen ∧ OwnOk M ad xs.length cap o := by
  generalize hv : Value.slice base n cap = v at h
  cases h with
  | nils _ _ ho => injection hv with h1 h2 h3; exact .inl ⟨h1, rfl, h3, ho⟩
  | list _ _ _ ad c g hF hg hl hc hm hoo => injection hv with h1 h2 h3; subst h3; exact .inr ⟨ad, g, h1, hF, hg, hc, hm, hoo⟩

set_option maxHeartbeats 1000000 in
theorem sound_app (hI : Inv B w0 M st w) {t t' ty e : TypeId} {ie : TI} (hu : ∃ i, tiOf P t = some i ∧ i.k = .slice e) (hu' : ∃ i e', tiOf P t' = some i ∧ i.k = .slice e') (he : tiOf P e = some ie)
    {sz sz' : Nat} {xs ys : List (List AV)} {o oy : Own} {v y : Value} (hv : RepV M (.list sz xs o) v) (hy : RepV M (.list sz' ys oy) y)
    (h0 : 0 < ie.size) (hz : ie.zero.length = ie.size) (hs : xs = [] ∨ sz = ie.size) (hs' : ys = [] ∨ sz' = ie.size) (hone : (ys.all fun y => y.all AV.one) = true)
    (hb : (xs.length + ys.length) * ie.bytes ≤ 140737488355328) (h63 : xs.length + ys.length ≤ 9223372036854775807)
    {st0 : St} (ho : Owns st0 e ie.size xs.length o st) (hK : ∀ o' st', Owns st0 e ie.size (xs.length + ys.length) o' st' → K (.list ie.size (xs ++ ys) o') st') :
    ∃ r w' M' z st', (Builtin.append_ #[t, t'] ty #[v, y]).run P w = .ok r w' ∧ M.le M' ∧ Inv B w0 M' st' w' ∧ RepV M' z r ∧ K z st' := by
  obtain ⟨base, cap, hve, old, hos, hor, hold, hxl⟩ := rows_read (P := P) hI hv ie.size hs
  obtain ⟨by_, cy, hye, new, hns, hnr, hnew, hyl⟩ := rows_read (P := P) hI hy ie.size hs'
  have hshape := run_append_shape (ty := ty) (w := w) hu hu' he base xs.length cap y ys.length by_ cy hye new
  rw [hve]
  rw [hve] at hv hor
  rw [hye] at hnr
  rw [← hye] at hnr
  have hll : ∀ i, i < (xs ++ ys).length → ((xs ++ ys).getD i []).length = ie.size := by
    intro i hi
    by_cases hx : i < xs.length
    · rw [getD_append_left' _ _ _ hx]; exact hxl i hx
    · rw [getD_append_right' _ _ _ hx]; exact hyl _ (by simp at hi; omega)
  have hnone := owns_none hI ho
  by_cases hle : xs.length + ys.length ≤ cap
  · have hrun := hshape.1 hle hnr
    rcases Nat.eq_zero_or_pos ys.length with hy0 | hy0
    · -- nothing is appended
      have hyn : ys = [] := List.length_eq_zero_iff.1 hy0
      subst hyn
      have hn0 : new = #[] := by
        have : new.size = 0 := by simpa using hns
        exact Array.size_eq_zero_iff.1 this
      subst hn0
      refine ⟨.slice base xs.length cap, w, M, .list ie.size xs o, st, ?_, .refl M, hI, ?_, ?_⟩
      · rw [hrun]
        cases base <;> simp [storeCells]
      · rcases hs with hx | hx
        · subst hx
          cases hv with
          | nils _ _ ho => exact .nils _ _ ho
          | list _ _ _ ad cap g hF hg hl hc hm ho => exact .list _ _ _ ad cap g (fun i j hi => by simp at hi) hg (fun i hi => by simp at hi) hc hm ho
        · rw [← hx]; exact hv
      · have := hK o st (by simpa using ho)
        simpa using this
    · -- in place
      rcases rep_open hv with ⟨_, hx0, hc0, _⟩ | ⟨ad, g, hbase, hF, hg, hc, hm, hoo⟩
      · subst hx0; simp only [List.length_nil] at hle; omega
      cases o with
      | no => exact ho.elim
      | clip => simp only [OwnOk] at hoo; omega
      | op id =>
        obtain ⟨ha, hcap, hid⟩ := hoo
        obtain ⟨ho1, ho2⟩ := ho
        have hsid : st id = some (.spare e ie.size xs.length) := by rw [ho2]; simp [St.upd]
        obtain ⟨hB, arr, g1, g2, g3, g4, g5⟩ := hI.obj id _ hsid
        subst ha hbase
        have hlen : new.size = ys.length * ie.size := hns
        have hfit : xs.length * ie.size + 0 + new.toList.length ≤ arr.size := by
          have e0 : new.toList.length = ys.length * ie.size := by simpa using hns
          rw [g2, ← hcap, e0, Nat.add_zero, ← Nat.add_mul]
          exact Nat.mul_le_mul_right _ hle
        have honev : ∀ u ∈ new.toList, u.oneCell' = true := by
          intro u hu
          obtain ⟨q, hq, rfl⟩ := List.getElem_of_mem hu
          have hq' : q < ys.length * ie.size := by rw [← hlen]; simpa using hq
          have d1 : q / ie.size < ys.length := (Nat.div_lt_iff_lt_mul h0).2 hq'
          have d2 : q % ie.size < ie.size := Nat.mod_lt _ h0
          have hr := hnew _ _ d1 d2
          rw [Nat.div_add_mod', Array.getD_eq_getD_getElem?, Array.getElem?_eq_getElem (by omega), Option.getD_some] at hr
          rw [Array.getElem_toList]
          refine hr.one ?_
          have hl1 := hyl _ d1
          rw [List.getD_eq_getElem?_getD (l := ys), List.getElem?_eq_getElem d1, Option.getD_some] at hl1 ⊢
          rw [List.getD_eq_getElem?_getD, List.getElem?_eq_getElem (by omega), Option.getD_some]
          exact List.all_eq_true.1 (List.all_eq_true.1 hone _ (List.getElem_mem d1)) _ (List.getElem_mem _)
        have hst := run_storeCells (P := P) e (M.pos id) (xs.length * ie.size) new.toList 0 arr w g1 honev hfit
        rw [Nat.add_zero] at hst
        simp only [addr_add, Nat.zero_add, hst, Result.andThen_ok] at hrun
        have hgs : ∀ (vs : List Value) (ar : Array Value) (k q : Nat), (splice ar k vs)[q]? = if k ≤ q ∧ q < k + vs.length ∧ q < ar.size then vs[q - k]? else ar[q]? := by
          intro vs
          induction vs with
          | nil => intro ar k q; simp [splice]; omega
          | cons u vs ih =>
            intro ar k q
            simp only [splice, ih, Array.size_setIfInBounds, List.length_cons]
            by_cases c1 : k + 1 ≤ q ∧ q < k + 1 + vs.length ∧ q < ar.size
            · rw [if_pos c1, if_pos (by omega)]
              rw [show q - k = (q - (k + 1)) + 1 by omega, List.getElem?_cons_succ]
            · rw [if_neg c1, Array.getElem?_setIfInBounds]
              by_cases c2 : k = q
              · subst c2
                by_cases c3 : k < ar.size
                · rw [if_pos rfl, if_pos c3, if_pos (by omega)]; simp
                · rw [if_pos rfl, if_neg c3, if_neg (by omega)]; rw [Array.getElem?_eq_none (by omega)]
              · rw [if_neg c2, if_neg (by omega)]
        have hcapn : cap * ie.size = arr.size := by rw [g2, hcap]
        have hput := hI.put (st' := st0.upd M.next (.spare e ie.size (xs.length + ys.length))) hsid e arr (splice arr (xs.length * ie.size) new.toList) g1 (xs.length * ie.size) ((xs.length + ys.length) * ie.size) cap g5
          (fun j hj => by rw [hgs]; rw [if_neg (by omega)])
          (fun i o' hi => by
            simp only [St.upd] at hi
            split at hi
            · rename_i e1
              injection hi with hi
              subst hi
              refine .inr ⟨e1, splice arr (xs.length * ie.size) new.toList, heap_putRow _ _ _ _ (Array.getElem?_eq_some_iff.1 g1).1, by rw [size_splice]; omega, hle, hm, fun a ha hoff => ?_⟩
              simp only [Mem.gain]
              have : xs.length * ie.size ≤ a.off := Nat.le_trans (Nat.mul_le_mul_right _ (by omega)) hoff
              rw [if_pos ⟨ha, this⟩, if_neg (by omega)]
            · rename_i e1
              have hne : i ≠ id := fun e => by rw [e, ho1] at hi; cases hi
              exact .inl ⟨e1, hne, by rw [ho2]; simp [St.upd, hne, hi]⟩)
        obtain ⟨hle', hI'⟩ := hput
        refine ⟨_, _, _, .list ie.size (xs ++ ys) (.op M.next), _, hrun, hle', hI', ?_, hK _ _ ⟨hnone, rfl⟩⟩
        have hnl : new.toList.length = ys.length * ie.size := by simpa using hlen
        have := rep_row (M := M.gain (M.pos id) (xs.length * ie.size) ((xs.length + ys.length) * ie.size) cap (splice arr (xs.length * ie.size) new.toList)) (sz := ie.size) (ys := xs ++ ys) (o := .op M.next) (b := M.pos id) (cap := cap)
          (splice arr (xs.length * ie.size) new.toList)
          (fun q hq => by
            rw [List.length_append] at hq
            by_cases hql : xs.length * ie.size ≤ q
            · simp only [Mem.gain]
              have hqa : q < (splice arr (xs.length * ie.size) new.toList).size := by
                rw [size_splice, g2, ← hcap]; exact Nat.lt_of_lt_of_le hq (Nat.mul_le_mul_right _ hle)
              rw [if_pos ⟨trivial, hql⟩, if_pos ⟨trivial, hq⟩, Array.getD_eq_getD_getElem?, Array.getElem?_eq_getElem hqa, Option.getD_some]
            · simp only [Mem.gain]
              rw [if_neg (by omega)]
              have d1 : q / ie.size < xs.length := (Nat.div_lt_iff_lt_mul h0).2 (by omega)
              have d2 : q % ie.size < ie.size := Nat.mod_lt _ h0
              have hxs : xs ≠ [] := fun e => by subst e; simp at d1
              have hse : sz = ie.size := hs.resolve_left hxs
              have hFq := hF (q / ie.size) (q % ie.size) d1 (by rw [hse]; exact d2)
              rw [hse, Nat.div_add_mod', addr_add, Nat.zero_add] at hFq
              rw [hFq]
              have hcq := hI.mem _ _ hFq
              rw [cell_of_row w _ _ _ _ _ g1] at hcq
              rw [Array.getD_eq_getD_getElem?, hgs, if_neg (by omega), hcq]; rfl)
          (fun i j hi hj => by
            have hr := rep_two (M := M) (size := ie.size) hos hns hold hnew (#[] : Array Value) i j hi hj
            have hlt : i * ie.size + j < (xs.length + ys.length) * ie.size := by
              rw [List.length_append] at hi
              have : (i + 1) * ie.size ≤ (xs.length + ys.length) * ie.size := Nat.mul_le_mul_right _ hi
              rw [Nat.succ_mul] at this
              omega
            have hadd : (xs.length + ys.length) * ie.size = xs.length * ie.size + ys.length * ie.size := Nat.add_mul ..
            have hcle : (xs.length + ys.length) * ie.size ≤ arr.size := by rw [← hcapn]; exact Nat.mul_le_mul_right _ hle
            refine RepV.mono hle' ?_
            by_cases hx : i < xs.length
            · have hlx : i * ie.size + j < xs.length * ie.size := by
                have : (i + 1) * ie.size ≤ xs.length * ie.size := Nat.mul_le_mul_right _ hx
                rw [Nat.succ_mul] at this
                omega
              have hxs : xs ≠ [] := fun e => by subst e; simp at hx
              have hse : sz = ie.size := hs.resolve_left hxs
              have hFq := hF i j hx (by rw [hse]; exact hj)
              rw [hse, addr_add, Nat.zero_add] at hFq
              have hcq := hI.mem _ _ hFq
              rw [cell_of_row w _ _ _ _ _ g1] at hcq
              rw [Array.getD_eq_getD_getElem?, hgs, if_neg (by omega), hcq, Option.getD_some, getD_append_left' _ _ _ hx]
              exact hg i j
            · have hlx : xs.length * ie.size ≤ i * ie.size + j := Nat.le_trans (Nat.mul_le_mul_right _ (by omega)) (Nat.le_add_right _ _)
              rw [Array.append_empty, agetD_append, if_neg (by rw [hos]; omega), hos] at hr
              rw [Array.getD_eq_getD_getElem?, hgs, if_pos (by omega), Array.getElem?_toList]
              rw [Array.getD_eq_getD_getElem?] at hr
              exact hr)
          hll (by simpa using hle) hm (by simp [OwnOk, Mem.gain])
        rw [List.length_append] at this
        exact this
  · -- a new row
    obtain ⟨cap', rest, hc1, hc2, hrs, hrun⟩ := hshape.2 hle hnr old hor h63 hb
    have hI1 := hI.drew
    have hsize : (old ++ new ++ rest).size = cap' * ie.size := by
      rw [Array.size_append, Array.size_append, hos, hns, hrs, hz, ← Nat.add_mul, ← Nat.add_mul]
      congr 1
      omega
    have hle1 := hI1.grow_le ((xs.length + ys.length) * ie.size) cap' (old ++ new ++ rest)
    have hI2 := hI1.alloc (st' := st0.upd M.next (.spare e ie.size (xs.length + ys.length))) e ((xs.length + ys.length) * ie.size) cap' (old ++ new ++ rest)
      (fun id x hx => by
        simp only [St.upd] at hx
        split at hx
        · rename_i e1
          injection hx with hx
          subst hx
          refine .inr ⟨e1, old ++ new ++ rest, by rw [heap_alloc, if_pos rfl], hsize, hc1, hc2, fun a ha hoff => ?_⟩
          simp only [Mem.grow]
          rw [if_pos ha, if_neg (by omega)]
        · rename_i e1
          exact .inl ⟨e1, (owns_sub ho id x hx).1⟩)
    refine ⟨_, _, _, .list ie.size (xs ++ ys) (.op M.next), _, hrun, hle1, hI2, ?_, hK _ _ ⟨hnone, rfl⟩⟩
    have hws : w.drew.heap.size = w.heap.size := rfl
    have := rep_row (M := M.grow w.heap.size ((xs.length + ys.length) * ie.size) cap' (old ++ new ++ rest)) (sz := ie.size) (ys := xs ++ ys) (o := .op M.next) (b := w.heap.size) (cap := cap')
      (old ++ new ++ rest)
      (fun q hq => by
        rw [List.length_append] at hq
        simp only [Mem.grow, if_true]
        have hqa : q < (old ++ new ++ rest).size := by rw [hsize]; exact Nat.lt_of_lt_of_le hq (Nat.mul_le_mul_right _ hc1)
        rw [if_pos ⟨trivial, hq⟩, Array.getD_eq_getD_getElem?, Array.getElem?_eq_getElem hqa, Option.getD_some])
      (fun i j hi hj => (rep_two hos hns hold hnew rest i j hi hj).mono hle1)
      hll (by simpa using hc1) hc2 (by simp [OwnOk, Mem.grow])
    rw [List.length_append] at this
    exact this
end
end Go.Sh
