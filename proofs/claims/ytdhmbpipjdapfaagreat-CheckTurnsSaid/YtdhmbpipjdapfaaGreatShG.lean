/- Shadow logic, part G: the state's invariant over new blocks and stores. -/
import Derived.Test.YtdhmbpipjdapfaaGreatShF
namespace Go.Sh
open Go.RowKit

theorem heap_alloc (w : World) (o : Obj) (k : Nat) : (w.alloc o).heap[k]? = if k = w.heap.size then some o else w.heap[k]? := by
  show (w.heap.push o)[k]? = _
  rw [Array.getElem?_push]
theorem size_alloc (w : World) (o : Obj) : (w.alloc o).heap.size = w.heap.size + 1 := by simp
theorem ObjOk.block {M : Mem} {w : World} {b cap : Nat} {o : AObj} (h : ObjOk M w b cap o) : b < w.heap.size := by
  cases o with
  | cells t cs => obtain ⟨arr, h, _⟩ := h; exact (Array.getElem?_eq_some_iff.1 h).1
  | spare t sz n => obtain ⟨arr, h, _⟩ := h; exact (Array.getElem?_eq_some_iff.1 h).1
  | map es clock => obtain ⟨_, arr, h, _⟩ := h; exact (Array.getElem?_eq_some_iff.1 h).1
  | iter m since seen last => exact (Array.getElem?_eq_some_iff.1 h.2.1).1
  | loop n env ps assign body left => obtain ⟨fn, tmps, dd, h, _⟩ := h; exact (Array.getElem?_eq_some_iff.1 h).1
/-- An object elsewhere, over a memory that grew elsewhere. -/
theorem ObjOk.keep {M M' : Mem} {w w' : World} {b cap : Nat} {o : AObj} (h : ObjOk M w b cap o) (hM : M.le M') (hb : w'.heap[b]? = w.heap[b]?) (hF : ∀ a : Addr, a.block = b → M'.F a = M.F a) (hO : M'.O b = M.O b := by rfl) : ObjOk M' w' b cap o := by
  cases o with
  | cells t cs =>
    obtain ⟨arr, h1, h2, h3, h4⟩ := h
    exact ⟨arr, hb.trans h1, h2, fun j => (h3 j).mono hM, fun a ha => (hF a ha).trans (h4 a ha)⟩
  | spare t sz n =>
    obtain ⟨arr, h1, h2, h3, h4, h5⟩ := h
    exact ⟨arr, hb.trans h1, h2, h3, h4, fun a ha ho => (hF a ha).trans (h5 a ha ho)⟩
  | map es clock =>
    obtain ⟨h0, arr, h1, h2, h3⟩ := h
    exact ⟨hO.trans h0, arr, hb.trans h1, h2, fun j e x he hx => ⟨(h3 j e x he hx).1.mono hM, (h3 j e x he hx).2.1.mono hM, (h3 j e x he hx).2.2⟩⟩
  | iter m since seen last =>
    obtain ⟨h0, h1, h2⟩ := h
    refine ⟨hO.trans h0, hb.trans (h1.trans ?_), fun i hi => Nat.lt_of_lt_of_le (h2 i hi) hM.next⟩
    cases m with
    | none => rfl
    | some i => simp only [Option.map_some]; rw [hM.pos i (h2 i rfl)]
  | loop n env ps assign body left =>
    obtain ⟨fn, tmps, dd, h1, h2, h3, h4⟩ := h
    exact ⟨fn, tmps, dd, hb.trans h1, h2, fun d => (h3 d).mono hM, hO.trans h4⟩
theorem Inv.fblock {B : Nat} {w0 w : World} {M : Mem} {st : St} (h : Inv B w0 M st w) {a : Addr} {v : Value} (e : M.F a = some v) : a.block < w.heap.size :=
  World.block_lt_of_cell? w a (h.mem a v e)
theorem Inv.fspot {B : Nat} {w0 w : World} {M : Mem} {st : St} (h : Inv B w0 M st w) {a : Addr} {v : Value} (e : M.F a = some v) : a.spot = none := by
  have := h.mem a v e
  unfold World.cell? at this
  split at this
  · split at this
    · cases this
    · rename_i hs; cases hh : a.spot <;> simp_all
  · cases this

/-- A new block: its first k cells never change; it may be an object's. -/
def Mem.grow (M : Mem) (b k c : Nat) (arr : Array Value) : Mem where
  F := fun a => if a.block = b then (if a.spot = none ∧ a.off < k then arr[a.off]? else none) else M.F a
  pos := fun i => if i = M.next then b else M.pos i
  cap := fun i => if i = M.next then c else M.cap i
  next := M.next + 1
  O := M.O
  ds := M.ds
  ro := M.ro
theorem Inv.oth_ne {B : Nat} {w0 w : World} {M : Mem} {st : St} (h : Inv B w0 M st w) {k b : Nat} {o : Obj} (e : M.O k = some o) {arr : Array Value} {t : TypeId} {f : Nat × Nat} (h0 : w.heap[b]? = some (.cells arr t f)) : k ≠ b := by
  rintro rfl
  obtain ⟨h1, h2⟩ := h.oth k o e
  rw [h0] at h1; cases h1; cases h2.1
theorem Inv.grow_le {B : Nat} {w0 w : World} {M : Mem} {st : St} (h : Inv B w0 M st w) (k c : Nat) (arr : Array Value) : M.le (M.grow w.heap.size k c arr) := by
  refine ⟨⟨fun a v e => ?_, by simp [Mem.grow], fun id hi => ?_, fun id hi => ?_⟩, fun _ _ e => e, rfl, rfl⟩
  · have := h.fblock e
    simp only [Mem.grow]
    rw [if_neg (by omega)]; exact e
  · simp only [Mem.grow]; rw [if_neg (by omega)]
  · simp only [Mem.grow]; rw [if_neg (by omega)]
theorem Inv.alloc {B : Nat} {w0 w : World} {M : Mem} {st st' : St} (h : Inv B w0 M st w) (t : TypeId) (k c : Nat) (arr : Array Value)
    (hst : ∀ id o, st' id = some o → (id ≠ M.next ∧ st id = some o) ∨ (id = M.next ∧ ObjOk (M.grow w.heap.size k c arr) (w.alloc (.cells arr t (0, 0))) w.heap.size c o)) :
    Inv B w0 (M.grow w.heap.size k c arr) st' (w.alloc (.cells arr t (0, 0))) := by
  have hle := h.grow_le k c arr
  refine ⟨h.below.alloc h.size _, by simp; have := h.size; omega, fun a v e => ?_, fun id o e => ?_, fun i j oi oj ei ej hp => ?_, fun id o e => ?_, fun k' o e => ?_, h.rnd⟩
  · simp only [Mem.grow] at e
    split at e
    · rename_i hb
      split at e
      · rename_i hs
        simp only [World.cell?, heap_alloc, hb, if_true, hs.1]
        simpa using e
      · cases e
    · rename_i hb
      have hc := h.mem a v e
      simp only [World.cell?, heap_alloc, hb, if_false]
      exact hc
  · simp only [Mem.grow]
    rcases hst id o e with ⟨_, e⟩ | ⟨e, _⟩
    · have := h.dom id o e; omega
    · omega
  · rcases hst i oi ei with ⟨ni, ei⟩ | ⟨rfl, hi⟩ <;> rcases hst j oj ej with ⟨nj, ej⟩ | ⟨rfl, hj⟩
    · simp only [Mem.grow, ni, nj, if_false] at hp
      exact h.inj i j oi oj ei ej hp
    · simp only [Mem.grow, ni, if_false, if_true] at hp
      have := (h.obj i oi ei).2.block; omega
    · simp only [Mem.grow, nj, if_false, if_true] at hp
      have := (h.obj j oj ej).2.block; omega
    · rfl
  · rcases hst id o e with ⟨ni, e⟩ | ⟨rfl, hi⟩
    · obtain ⟨h1, h2⟩ := h.obj id o e
      have hb := h2.block
      simp only [Mem.grow, ni, if_false]
      refine ⟨h1, h2.keep hle (by rw [heap_alloc, if_neg (by omega)]) fun a ha => ?_⟩
      show (if _ then _ else _) = _; rw [if_neg (by omega)]
    · simp only [Mem.grow, if_true]
      exact ⟨h.size, hi⟩
  · obtain ⟨h1, h2⟩ := h.oth k' o e
    have := (Array.getElem?_eq_some_iff.1 h1).1
    exact ⟨by rw [heap_alloc, if_neg (by omega)]; exact h1, h2⟩

/-- A block is written: an object's. Its first k cells never change from now on. -/
def Mem.gain (M : Mem) (b lo k c : Nat) (arr : Array Value) : Mem where
  F := fun a => if a.block = b ∧ lo ≤ a.off then (if a.spot = none ∧ a.off < k then arr[a.off]? else none) else M.F a
  pos := fun i => if i = M.next then b else M.pos i
  cap := fun i => if i = M.next then c else M.cap i
  next := M.next + 1
  O := M.O
  ds := M.ds
  ro := M.ro
theorem Inv.put {B : Nat} {w0 w : World} {M : Mem} {st st' : St} (h : Inv B w0 M st w) {id : Nat} {o : AObj} (hid : st id = some o) (t : TypeId) (arr0 arr : Array Value)
    (h0 : w.heap[M.pos id]? = some (.cells arr0 t (0, 0))) (lo k c : Nat) (hlo : ∀ a : Addr, a.block = M.pos id → lo ≤ a.off → M.F a = none)
    (hold : ∀ j, j < lo → arr[j]? = arr0[j]?)
    (hst : ∀ i o', st' i = some o' → (i ≠ M.next ∧ i ≠ id ∧ st i = some o') ∨ (i = M.next ∧ ObjOk (M.gain (M.pos id) lo k c arr) (putRow w (M.pos id) arr t) (M.pos id) c o')) :
    M.le (M.gain (M.pos id) lo k c arr) ∧ Inv B w0 (M.gain (M.pos id) lo k c arr) st' (putRow w (M.pos id) arr t) := by
  have hb := (Array.getElem?_eq_some_iff.1 h0).1
  have hle : M.le (M.gain (M.pos id) lo k c arr) := by
    refine ⟨⟨fun a v e => ?_, by simp [Mem.gain], fun i hi => ?_, fun i hi => ?_⟩, fun _ _ e => e, rfl, rfl⟩
    · simp only [Mem.gain]
      split
      · rename_i hc; rw [hlo a hc.1 hc.2] at e; cases e
      · exact e
    · simp only [Mem.gain]; rw [if_neg (by omega)]
    · simp only [Mem.gain]; rw [if_neg (by omega)]
  refine ⟨hle, ?_, by rw [size_putRow]; exact h.size, fun a v e => ?_, fun i o' e => ?_, fun i j oi oj ei ej hp => ?_, fun i o' e => ?_, fun k' o' e => ?_, h.rnd⟩
  · have hB := (h.obj id o hid).1
    refine ⟨h.below.os, h.below.tape, h.below.output, by rw [size_putRow]; exact h.below.size, fun i hi => ?_⟩
    rw [heap_putRow_ne _ _ _ _ _ (by omega)]
    exact h.below.block i hi
  · simp only [Mem.gain] at e
    split at e
    · rename_i hc
      split at e
      · rename_i hs
        simp only [World.cell?, hc.1, heap_putRow _ _ _ _ hb, hs.1]
        simpa using e
      · cases e
    · rename_i hc
      have hm := h.mem a v e
      by_cases hab : a.block = M.pos id
      · have hlt : a.off < lo := by
          by_cases hl : lo ≤ a.off
          · exact absurd ⟨hab, hl⟩ hc
          · omega
        have hs := h.fspot e
        simp only [World.cell?, hab, h0, hs] at hm
        simp only [World.cell?, hab, heap_putRow _ _ _ _ hb, hs]
        rw [hold a.off hlt]; simpa using hm
      · simp only [World.cell?]
        rw [heap_putRow_ne _ _ _ _ _ hab]
        exact hm
  · simp only [Mem.gain]
    rcases hst i o' e with ⟨_, _, e⟩ | ⟨e, _⟩
    · have := h.dom i o' e; omega
    · omega
  · rcases hst i oi ei with ⟨ni, di, ei⟩ | ⟨rfl, hi⟩ <;> rcases hst j oj ej with ⟨nj, dj, ej⟩ | ⟨rfl, hj⟩
    · simp only [Mem.gain, ni, nj, if_false] at hp
      exact h.inj i j oi oj ei ej hp
    · simp only [Mem.gain, ni, if_false, if_true] at hp
      exact absurd (h.inj i id oi o ei hid hp) di
    · simp only [Mem.gain, nj, if_false, if_true] at hp
      exact absurd (h.inj j id oj o ej hid hp.symm) dj
    · rfl
  · rcases hst i o' e with ⟨ni, di, e⟩ | ⟨rfl, hi⟩
    · obtain ⟨h1, h2⟩ := h.obj i o' e
      have hne : M.pos i ≠ M.pos id := fun hp => di (h.inj i id o' o e hid hp)
      simp only [Mem.gain, ni, if_false]
      refine ⟨h1, h2.keep hle (heap_putRow_ne _ _ _ _ _ hne) fun a ha => ?_⟩
      show (if _ then _ else _) = _; rw [if_neg (fun hc => hne (ha.symm.trans hc.1))]
    · simp only [Mem.gain, if_true]
      exact ⟨(h.obj id o hid).1, hi⟩
  · obtain ⟨h1, h2⟩ := h.oth k' o' e
    exact ⟨by rw [heap_putRow_ne _ _ _ _ _ (h.oth_ne e h0)]; exact h1, h2⟩
/-- A store into an object's cells. -/
theorem Inv.store {B : Nat} {w0 w : World} {M : Mem} {st : St} (h : Inv B w0 M st w) {id : Nat} {t : TypeId} {cs cs' : List AV} (hid : st id = some (.cells t cs)) (arr arr' : Array Value)
    (h0 : w.heap[M.pos id]? = some (.cells arr t (0, 0))) (hr : RepL M cs' arr') : Inv B w0 M (st.upd id (.cells t cs')) (putRow w (M.pos id) arr' t) := by
  have hb := (Array.getElem?_eq_some_iff.1 h0).1
  obtain ⟨hB, hO⟩ := h.obj id _ hid
  obtain ⟨arr1, g1, g2, g3, g4⟩ := hO
  refine ⟨⟨h.below.os, h.below.tape, h.below.output, by rw [size_putRow]; exact h.below.size, fun i hi => ?_⟩, by rw [size_putRow]; exact h.size, fun a v e => ?_, fun i o' e => ?_, fun i j oi oj ei ej hp => ?_, fun i o' e => ?_, fun k' o' e => ⟨by rw [heap_putRow_ne _ _ _ _ _ (h.oth_ne e h0)]; exact (h.oth k' o' e).1, (h.oth k' o' e).2⟩, h.rnd⟩
  · rw [heap_putRow_ne _ _ _ _ _ (by omega)]
    exact h.below.block i hi
  · have hne : a.block ≠ M.pos id := fun hc => by rw [g4 a hc] at e; cases e
    simp only [World.cell?]
    rw [heap_putRow_ne _ _ _ _ _ hne]
    exact h.mem a v e
  · simp only [St.upd] at e
    split at e
    · rename_i hi; subst hi; exact h.dom _ _ hid
    · exact h.dom _ _ e
  · simp only [St.upd] at ei ej
    have key : ∀ i o', (if i = id then some (AObj.cells t cs') else st i) = some o' → ∃ o'', st i = some o'' := by
      intro i o' e
      split at e
      · rename_i hi; subst hi; exact ⟨_, hid⟩
      · exact ⟨_, e⟩
    obtain ⟨_, ei⟩ := key i oi ei
    obtain ⟨_, ej⟩ := key j oj ej
    exact h.inj i j _ _ ei ej hp
  · simp only [St.upd] at e
    split at e
    · rename_i hi
      subst hi
      injection e with e
      subst e
      exact ⟨hB, arr', heap_putRow _ _ _ _ hb, hr.1, hr.2, g4⟩
    · rename_i hi
      obtain ⟨h1, h2⟩ := h.obj i o' e
      have hne : M.pos i ≠ M.pos id := fun hp => hi (h.inj i id o' _ e hid hp)
      exact ⟨h1, h2.keep (.refl M) (heap_putRow_ne _ _ _ _ _ hne) fun _ _ => rfl⟩
end Go.Sh
